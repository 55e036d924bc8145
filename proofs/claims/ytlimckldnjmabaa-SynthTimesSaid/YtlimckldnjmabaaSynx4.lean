/- Walks through the parts of plans. -/
import Derived.Test.YtlimckldnjmabaaSynx0
import Derived.Test.YtlimckldnjmabaaSynx3
import Derived.Test.YtlimckldnjmabaaSynx1
import Derived.Test.YtlimckldnjmabaaSynx2
import Derived.Test.YtlimckldnjmabaaAWx2
set_option linter.unusedSimpArgs false
set_option linter.unusedVariables false
set_option linter.unusedSectionVars false
set_option maxRecDepth 4000
set_option maxHeartbeats 8000000
namespace Go.Proofs.Ytlimckldnjmabaa
open Go Go.AW Go.Proofs
theorem Bb{n:ab}{p:sn}(hn:n.aa.length <= 1048576)(h0:0 < n.aa.length)(hp:p.Ok)(hg:Ground n)(hi:n.ins.length <= 1048576):aw Try.prog 119 [.agg (ab.rG n),.agg (sn.row p)] [] [] (fun r o=>∃ c w,lS n c w /\ r = .tup [.agg (Cell.iK c),vi w] /\ o = []):=by
 refine aw.Rq Try.func119 U U U (n:=96) ae (aH U) ?_
 have ZK:=hp.kind; have Kf:=hp.op; have ZL:=hp.width; have X9:=hp.a; have ZM:=hp.b; have RP:=hp.d; have ZN:=hp.num; have Vc:=Nat.mod_lt p.a h0; have Vd:=Nat.mod_lt p.b h0
 refine .sr (.box 102 U U U U U ae (.box 103 U U U U U ae ?_))
 refine .alloc 104 ez U U ae ?_
 refine .an ?_
 refine .nil (.seq (.sh (Sh.eQ 102 U U) (.sh (Sh.eQ 103 U U) (.region (.buildSlice (([2,3,9,10,11,12,13,14,15,16,17,18,19,20,21,22,23,24]:List Int).map ah) a7 dD U U U U U (aq (s:=1) (f:=ah) (fun _=>U)) U U U ae ?_)))))
 refine .bQ U ae (.sh (Sh.cG (d:=6) (([2,3,9,10,11,12,13,14,15,16,17,18,19,20,21,22,23,24]:List Int).map ah) U iJ (cC.map aI)) (.nil (.le (aY:=⟨[(2,.fp (ab.rG n) 0),(3,.fp (sn.row p) 0),(4,.ptr 104 0 0 0),(6,.fz 1 (([2,3,9,10,11,12,13,14,15,16,17,18,19,20,21,22,23,24]:List Int).map ah))],[(104,.cells [vi 0,vi 0,vi 0,vn,.v (.int .u64 0),vi 0])]⟩) (Le.mk (.c2 (.c (.c .nil))) (.c .nil)) (.sr (.mv ?_)))))
 refine .fa pD ?_
 refine .ld tl ?_
 refine .vl (Y.qk wT sD U zT) (.mv ?_)
 refine .vl (Y.qx (n:=([2,3,9,10,11,12,13,14,15,16,17,18,19,20,21,22,23,24]:List Int).length) a7 U fV) (.vl (Y.zt U U aG) (.vl (Y.qs (m:=p.op % (([2,3,9,10,11,12,13,14,15,16,17,18,19,20,21,22,23,24]:List Int).length)) a7 U U bc (ao (d:=0) aG)) (.ld bj ?_)))
 refine .an (.nil (.sr ?_))
 refine .fa BH ?_
 refine .ld tl ?_
 refine .aZ vC (fP (k:=p.width)) U (.aj U U .nil) ae U ?_
 refine .an (.nil (.sr ?_))
 refine .mv ?_
 refine .vl (Y.qh vB ez U U U) (.alloc 109 ez U U ae (.ai g6 U U U U U U (aH U) U ?_))
 refine .nil (.seq (.block (.sr (.mv ?_))))
 refine .vl (Y.ql U U) (.an (.nil ?_))
 refine .aA U (fun Hf=>?_) (fun Hf=>?_)
 refine .gr U (.fe 0 U au gm U U U (aH U) U U ae (.blind 1 U au (ax.fieldAddr jI U U) ae ?_))
 refine .blind 2 U au (ax.lV oY U U (m:=0) U om U) ae (.load 3 U au tl U U U U U ae (.fe 5 U au gm U U U (aH U) U U ae ?_))
 refine .blind 6 U au (ax.move U U) ae (.blind 7 U au (ax.fieldAddr jI U U) ae (.blind 8 U au (ax.lV oY U U (m:=1) U om U) ae ?_))
 refine .load 9 U au tl U U U U U ae (.fe 11 U au gm U U U (aH U) U U ae (.blind 12 U au (ax.move U U) ae ?_))
 refine .blind 13 U au (ax.fieldAddr jI U U) ae (.blind 14 U au (ax.lV oY U U (m:=2) U om U) ae (.load 15 U au tl U U U U U ae ?_))
 refine .yj (.one 4 U au (.aZ jm (cu (n:=(⟨n.name,n.aa,n.cells,n.ins,n.aD,n.streams,[],[],n.freeze,n.done,[]⟩:ab)) (w:=1) (k:=p.a) (by show (n.aa).length <= 1048576; omega) om) U (.aj U U (.aj U U (.aj U U .nil))) ae U ?_))
 refine .nil ⟨U,(.one 10 U au (.aZ jm (cu (n:=(⟨n.name,n.aa,n.cells,n.ins,n.aD,n.streams,[],[],n.freeze,n.done,[]⟩:ab)) (w:=(az p.width)) (k:=p.b) (by show (n.aa).length <= 1048576; omega) om) U (.aj U U (.aj U U (.aj U U .nil))) ae U ?_))⟩
 refine .nil ⟨U,(.one 16 U au (.aZ jm (cu (n:=(⟨n.name,n.aa,n.cells,n.ins,n.aD,n.streams,[],[],n.freeze,n.done,[]⟩:ab)) (w:=(az p.width)) (k:=p.d) (by show (n.aa).length <= 1048576; omega) om) U (.aj U U (.aj U U (.aj U U .nil))) ae U ?_))⟩
 refine .nil ⟨U,(.one 17 U au (.buildSlice (([aB n.aa 1 p.a,aB n.aa (az p.width) p.b,aB n.aa (az p.width) p.d]:List Int).map ah) a7 dD U U U U U (aq (s:=1) (f:=ah) (fun _=>U)) U U U ae ?_))⟩
 refine .nil ⟨U,(.one 18 U au (.fa bU ?_))⟩
 refine .nil ⟨U,(.one 19 U au (.sh (Sh.dr (d:=62) (n:=([aB n.aa 1 p.a,aB n.aa (az p.width) p.b,aB n.aa (az p.width) p.d]:List Int).length) 162 (([aB n.aa 1 p.a,aB n.aa (az p.width) p.b,aB n.aa (az p.width) p.d]:List Int).map ah) U iJ (aU U) ae) (.ai fJ U U U U U U (aH U) U ?_)))⟩
 refine .nil ⟨U,(.done au (.le (aY:=⟨[(4,.ptr 104 0 0 0),(8,vi (az p.width)),(9,.ptr 109 0 0 0)],[(104,.cells [vi 0,vi 0,vi 0,vn,.v (.int .u64 0),vi 0]),(109,.cells [vi 2,vi (([2,3,9,10,11,12,13,14,15,16,17,18,19,20,21,22,23,24]:List Int).getD (p.op % (([2,3,9,10,11,12,13,14,15,16,17,18,19,20,21,22,23,24]:List Int).length)) 0),vi 0,.aL 162 1 0 (([aB n.aa 1 p.a,aB n.aa (az p.width) p.b,aB n.aa (az p.width) p.d]:List Int).length),.v (.int .u64 0),vi 0]),(162,.rows 1 (([aB n.aa 1 p.a,aB n.aa (az p.width) p.b,aB n.aa (az p.width) p.d]:List Int).map ah))]⟩) (Le.mk (.c2 (.c .nil)) (.c2 (.c .nil))) ?_))⟩
 refine .sr (.vl (Y.zb fA U U (aH U) U U) (.mv ?_))
 refine .ai g6 U U U U U U (aH U) U ?_
 refine .an (.nil (.ret ?_))
 exact ⟨_,U,_,_,_,Sh.kL (d:=0) 3 162 U U U U sm U ae,U,U,(⟨2,([2,3,9,10,11,12,13,14,15,16,17,18,19,20,21,22,23,24]:List Int).getD (p.op % (([2,3,9,10,11,12,13,14,15,16,17,18,19,20,21,22,23,24]:List Int).length)) 0,0,([aB n.aa 1 p.a,aB n.aa (az p.width) p.b,aB n.aa (az p.width) p.d]:List Int),0,0⟩:Cell),_,KG hg Hf,U,U⟩
 refine .sr (.mv ?_)
 refine .aZ SO (An (w:=(([2,3,9,10,11,12,13,14,15,16,17,18,19,20,21,22,23,24]:List Int).getD (p.op % (([2,3,9,10,11,12,13,14,15,16,17,18,19,20,21,22,23,24]:List Int).length)) 0))) U (.aj U U .nil) ae U ?_
 refine .an (.nil ?_)
 refine .aA U (fun Kb=>?_) (fun Kb=>?_)
 refine .sr (.fa jI ?_)
 refine .vl (Y.qu oY U U (m:=0) U om U) (.ld tl ?_)
 refine .vl (Y.qk wT sD U zT) (.fa bO ?_)
 refine .ld bt ?_
 refine .vl (Y.qx (n:=n.aa.length) a7 U fV) (.vl (Y.zt U U aG) (.an (.nil ?_)))
 refine .iC (fun (sV:Int)=>⟨[(4,.ptr 104 0 0 0),(8,vi sV),(9,.ptr 109 0 0 0),(10,vi ((p.a:Int) % (n.aa.length:Int)))],[(104,.cells [vi 0,vi 0,vi 0,vn,.v (.int .u64 0),vi 0]),(109,.cells [vi 2,vi (([2,3,9,10,11,12,13,14,15,16,17,18,19,20,21,22,23,24]:List Int).getD (p.op % (([2,3,9,10,11,12,13,14,15,16,17,18,19,20,21,22,23,24]:List Int).length)) 0),vi 0,vn,.v (.int .u64 0),vi 0])]⟩) (fun sV=>(((([2,3,9,10,11,12,13,14,15,16,17,18,19,20,21,22,23,24]:List Int).getD (p.op % (([2,3,9,10,11,12,13,14,15,16,17,18,19,20,21,22,23,24]:List Int).length)) 0) = 24) /\ (sV = (if (n.aa.getD (p.a % n.aa.length) 0) < (az p.width) then (n.aa.getD (p.a % n.aa.length) 0) else (az p.width)))) \/ ((¬ ((([2,3,9,10,11,12,13,14,15,16,17,18,19,20,21,22,23,24]:List Int).getD (p.op % (([2,3,9,10,11,12,13,14,15,16,17,18,19,20,21,22,23,24]:List Int).length)) 0) = 24)) /\ (sV = (if (n.aa.getD (p.a % n.aa.length) 0) > (az p.width) then (n.aa.getD (p.a % n.aa.length) 0) else (az p.width))))) ?_ (fun sV Jg=>?_)
 refine .sr (.mv ?_)
 refine .vl (Y.ql U U) (.nil (.aA U (fun IG=>?_) (fun IG=>?_)))
 refine .region (.mv ?_)
 refine .fa bO ?_
 refine .ld bt ?_
 refine .mv ?_
 refine .vl (Y.qs (m:=p.a % n.aa.length) a7 U U bc (ao (d:=0) om)) (.ld bj ?_)
 refine .vl (Y.zg U U U) (.an ?_)
 refine .nil (⟨if (n.aa.getD (p.a % n.aa.length) 0) < (az p.width) then (n.aa.getD (p.a % n.aa.length) 0) else (az p.width),.inl ⟨IG,U⟩,Le.mk (.c (.cons (ak U bc) (.c (.c .nil)))) (.c (.c .nil))⟩)
 refine .region (.mv ?_)
 refine .fa bO ?_
 refine .ld bt ?_
 refine .mv ?_
 refine .vl (Y.qs (m:=p.a % n.aa.length) a7 U U bc (ao (d:=0) om)) (.ld bj ?_)
 refine .vl (Y.ze U U U) (.an ?_)
 refine .nil (⟨if (n.aa.getD (p.a % n.aa.length) 0) > (az p.width) then (n.aa.getD (p.a % n.aa.length) 0) else (az p.width),.inr (⟨IG,U⟩),Le.mk (.c (.cons (ak U bc) (.c (.c .nil)))) (.c (.c .nil))⟩)
 refine .region (.mv ?_)
 refine .buildSlice (([(p.a:Int) % (n.aa.length:Int)]:List Int).map ah) a7 dD U U U U U (aq (s:=1) (f:=ah) (fun _=>U)) U U U ae ?_
 refine .fa bU ?_
 refine .sh (Sh.dr (d:=92) (n:=([(p.a:Int) % (n.aa.length:Int)]:List Int).length) 192 (([(p.a:Int) % (n.aa.length:Int)]:List Int).map ah) U iJ (aU U) ae) (.ai fJ U U U U U U (aH U) U (.nil ?_))
 refine .le (aY:=⟨[(4,.ptr 104 0 0 0),(8,vi sV),(9,.ptr 109 0 0 0)],[(104,.cells [vi 0,vi 0,vi 0,vn,.v (.int .u64 0),vi 0]),(109,.cells [vi 2,vi (([2,3,9,10,11,12,13,14,15,16,17,18,19,20,21,22,23,24]:List Int).getD (p.op % (([2,3,9,10,11,12,13,14,15,16,17,18,19,20,21,22,23,24]:List Int).length)) 0),vi 0,.aL 192 1 0 (([(p.a:Int) % (n.aa.length:Int)]:List Int).length),.v (.int .u64 0),vi 0]),(192,.rows 1 (([(p.a:Int) % (n.aa.length:Int)]:List Int).map ah))]⟩) (Le.mk (.c2 (.c .nil)) (.c2 (.c .nil))) ?_
 refine .sr (.vl (Y.zb fA U U (aH U) U U) (.mv ?_))
 refine .ai g6 U U U U U U (aH U) U ?_
 refine .an (.nil (.ret ?_))
 exact ⟨_,U,_,_,_,Sh.kL (d:=0) 3 192 U U U U sm U ae,U,U,(⟨2,([2,3,9,10,11,12,13,14,15,16,17,18,19,20,21,22,23,24]:List Int).getD (p.op % (([2,3,9,10,11,12,13,14,15,16,17,18,19,20,21,22,23,24]:List Int).length)) 0,0,([(p.a:Int) % (n.aa.length:Int)]:List Int),0,0⟩:Cell),_,Og hg h0 Kb Jg,U,U⟩
 refine .seq (.gr U (.fe 0 U au gm U U U (aH U) U U ae ?_))
 refine .blind 1 U au (ax.move U U) ae (.blind 2 U au (ax.fieldAddr jI U U) ae (.blind 3 U au (ax.lV oY U U (m:=0) U om U) ae ?_))
 refine .load 4 U au tl U U U U U ae (.fe 6 U au gm U U U (aH U) U U ae (.blind 7 U au (ax.move U U) ae ?_))
 refine .blind 8 U au (ax.fieldAddr jI U U) ae (.blind 9 U au (ax.lV oY U U (m:=1) U om U) ae (.load 10 U au tl U U U U U ae ?_))
 refine .yj (.one 5 U au (.aZ jm (cu (n:=(⟨n.name,n.aa,n.cells,n.ins,n.aD,n.streams,[],[],n.freeze,n.done,[]⟩:ab)) (w:=(az p.width)) (k:=p.a) (by show (n.aa).length <= 1048576; omega) om) U (.aj U U (.aj U U (.aj U U .nil))) ae U ?_))
 refine .nil ⟨U,(.one 11 U au (.aZ jm (cu (n:=(⟨n.name,n.aa,n.cells,n.ins,n.aD,n.streams,[],[],n.freeze,n.done,[]⟩:ab)) (w:=(az p.width)) (k:=p.b) (by show (n.aa).length <= 1048576; omega) om) U (.aj U U (.aj U U (.aj U U .nil))) ae U ?_))⟩
 refine .nil ⟨U,(.one 12 U au (.buildSlice (([aB n.aa (az p.width) p.a,aB n.aa (az p.width) p.b]:List Int).map ah) a7 dD U U U U U (aq (s:=1) (f:=ah) (fun _=>U)) U U U ae ?_))⟩
 refine .nil ⟨U,(.one 13 U au (.fa bU ?_))⟩
 refine .nil ⟨U,(.one 14 U au (.sh (Sh.dr (d:=38) (n:=([aB n.aa (az p.width) p.a,aB n.aa (az p.width) p.b]:List Int).length) 138 (([aB n.aa (az p.width) p.a,aB n.aa (az p.width) p.b]:List Int).map ah) U iJ (aU U) ae) (.ai fJ U U U U U U (aH U) U ?_)))⟩
 refine .nil ⟨U,?_⟩
 refine .done au (.le (aY:=⟨[(4,.ptr 104 0 0 0),(7,vi (([2,3,9,10,11,12,13,14,15,16,17,18,19,20,21,22,23,24]:List Int).getD (p.op % (([2,3,9,10,11,12,13,14,15,16,17,18,19,20,21,22,23,24]:List Int).length)) 0)),(8,vi (az p.width)),(9,.ptr 109 0 0 0)],[(104,.cells [vi 0,vi 0,vi 0,vn,.v (.int .u64 0),vi 0]),(109,.cells [vi 2,vi (([2,3,9,10,11,12,13,14,15,16,17,18,19,20,21,22,23,24]:List Int).getD (p.op % (([2,3,9,10,11,12,13,14,15,16,17,18,19,20,21,22,23,24]:List Int).length)) 0),vi 0,.aL 138 1 0 (([aB n.aa (az p.width) p.a,aB n.aa (az p.width) p.b]:List Int).length),.v (.int .u64 0),vi 0]),(138,.rows 1 (([aB n.aa (az p.width) p.a,aB n.aa (az p.width) p.b]:List Int).map ah))]⟩) (Le.mk (.c2 (.c (.c .nil))) (.c2 (.c .nil))) (.sr ?_))
 refine .mv ?_
 refine .aZ OD (mL (w:=(([2,3,9,10,11,12,13,14,15,16,17,18,19,20,21,22,23,24]:List Int).getD (p.op % (([2,3,9,10,11,12,13,14,15,16,17,18,19,20,21,22,23,24]:List Int).length)) 0))) U (.aj U U .nil) ae U (.nil (.aA U (fun Az=>?_) (fun Az=>?_)))
 refine .region (.an ?_)
 refine .nil (.le (aY:=⟨[(4,.ptr 104 0 0 0),(8,vi 1),(9,.ptr 109 0 0 0)],[(104,.cells [vi 0,vi 0,vi 0,vn,.v (.int .u64 0),vi 0]),(109,.cells [vi 2,vi (([2,3,9,10,11,12,13,14,15,16,17,18,19,20,21,22,23,24]:List Int).getD (p.op % (([2,3,9,10,11,12,13,14,15,16,17,18,19,20,21,22,23,24]:List Int).length)) 0),vi 0,.aL 138 1 0 (([aB n.aa (az p.width) p.a,aB n.aa (az p.width) p.b]:List Int).length),.v (.int .u64 0),vi 0]),(138,.rows 1 (([aB n.aa (az p.width) p.a,aB n.aa (az p.width) p.b]:List Int).map ah))]⟩) (Le.mk (.c2 (.c .nil)) (.c2 (.c .nil))) ?_)
 refine .sr (.vl (Y.zb fA U U (aH U) U U) (.mv ?_))
 refine .ai g6 U U U U U U (aH U) U ?_
 refine .an (.nil (.ret ?_))
 exact ⟨_,U,_,_,_,Sh.kL (d:=0) 3 138 U U U U sm U ae,U,U,(⟨2,([2,3,9,10,11,12,13,14,15,16,17,18,19,20,21,22,23,24]:List Int).getD (p.op % (([2,3,9,10,11,12,13,14,15,16,17,18,19,20,21,22,23,24]:List Int).length)) 0,0,([aB n.aa (az p.width) p.a,aB n.aa (az p.width) p.b]:List Int),0,0⟩:Cell),_,EC hg (EB _) Hf Kb (.inl ⟨Az,U⟩),U,U⟩
 refine .skip (.le (aY:=⟨[(4,.ptr 104 0 0 0),(8,vi (az p.width)),(9,.ptr 109 0 0 0)],[(104,.cells [vi 0,vi 0,vi 0,vn,.v (.int .u64 0),vi 0]),(109,.cells [vi 2,vi (([2,3,9,10,11,12,13,14,15,16,17,18,19,20,21,22,23,24]:List Int).getD (p.op % (([2,3,9,10,11,12,13,14,15,16,17,18,19,20,21,22,23,24]:List Int).length)) 0),vi 0,.aL 138 1 0 (([aB n.aa (az p.width) p.a,aB n.aa (az p.width) p.b]:List Int).length),.v (.int .u64 0),vi 0]),(138,.rows 1 (([aB n.aa (az p.width) p.a,aB n.aa (az p.width) p.b]:List Int).map ah))]⟩) (Le.mk (.c2 (.c .nil)) (.c2 (.c .nil))) ?_)
 refine .sr (.vl (Y.zb fA U U (aH U) U U) (.mv ?_))
 refine .ai g6 U U U U U U (aH U) U ?_
 refine .an (.nil (.ret ?_))
 exact ⟨_,U,_,_,_,Sh.kL (d:=0) 3 138 U U U U sm U ae,U,U,(⟨2,([2,3,9,10,11,12,13,14,15,16,17,18,19,20,21,22,23,24]:List Int).getD (p.op % (([2,3,9,10,11,12,13,14,15,16,17,18,19,20,21,22,23,24]:List Int).length)) 0,0,([aB n.aa (az p.width) p.a,aB n.aa (az p.width) p.b]:List Int),0,0⟩:Cell),_,EC hg (EB _) Hf Kb (.inr ⟨Az,U⟩),U,U⟩
theorem wD{n:ab}{p:sn}(hn:n.aa.length <= 1048576)(h0:0 < n.aa.length)(hp:p.Ok)(hg:Ground n)(hi:n.ins.length <= 1048576):aw Try.prog 65 [.agg (ab.rG n),.agg (sn.row p)] [] [] (fun r o=>∃ c w,lS n c w /\ r = .tup [.agg (Cell.iK c),vi w] /\ o = []):=by
 refine aw.Rq Try.func65 U U U (n:=208) ae (aH U) ?_
 have ZK:=hp.kind; have Kf:=hp.op; have ZL:=hp.width; have X9:=hp.a; have ZM:=hp.b; have RP:=hp.d; have ZN:=hp.num; have Vc:=Nat.mod_lt p.a h0; have Vd:=Nat.mod_lt p.b h0
 refine .sr (.box 102 U U U U U ae (.box 103 U U U U U ae ?_))
 refine .alloc 104 ez U U ae ?_
 refine .an ?_
 refine .nil (.seq (.sh (Sh.eQ 102 U U) (.sh (Sh.eQ 103 U U) (.region (.fa BH ?_)))))
 refine .ld tl ?_
 refine .aZ vC (fP (k:=p.width)) U (.aj U U .nil) ae U ?_
 refine .an (.nil (.sr ?_))
 refine .fa HV ?_
 refine .ld tl ?_
 refine .vl (Y.zt U U aG) (.vl (Y.qk wT sD U zT) (.vl (Y.qb U U aG) (.vl (Y.qh vB ez U U U) (.alloc 107 ez U U ae (.ai g6 U U U U U U (aH U) U ?_)))))
 refine .nil (.seq (.gy U au ?_))
 refine .val (Y.qp jI U U) ae (.val (Y.qu oY U U (m:=0) U om U) ae (.val (Y.za tl U U U U) ae (.val (Y.qp jI U U) ae (.val (Y.qu oY U U (m:=1) U om U) ae (.val (Y.za tl U U U U) ae (.val (Y.qp jI U U) ae (.val (Y.qu oY U U (m:=2) U om U) ae (.val (Y.za tl U U U U) ae (.val (Y.qf U U) ae (.val (Y.qf U U) ae (.val (Y.qf U U) ae ?_)))))))))))
 refine .nil (.le (aY:=⟨[(2,.fp (ab.rG n) 0),(3,.fp (sn.row p) 0),(4,.ptr 104 0 0 0),(6,vi (az p.width)),(7,.ptr 107 0 0 0),(8,.v (.int .u8 (p.a:Int))),(9,.v (.int .u8 (p.b:Int))),(10,.v (.int .u8 (p.d:Int)))],[(104,.cells [vi 0,vi 0,vi 0,vn,.v (.int .u64 0),vi 0]),(107,.cells [vi (1 + ((p.kind:Int) % 10)),vi 0,vi (-1),vn,.v (.int .u64 0),vi 0])]⟩) (Le.mk (.c4 (.c2 (.c (.c .nil)))) (.c (.c .nil))) ?_)
 refine .seq (.sr (.fa dC ?_))
 refine .ld bj ?_
 refine .nil (.block (.sr (.vl (Y.ql U U) (.an (.nil ?_)))))
 refine .aA U (fun L3=>?_) (fun L3=>?_)
 refine .region (.mv ?_)
 refine .fa tY ?_
 refine .ld iY ?_
 refine .aZ OI (wy (w:=(az p.width)) (x:=p.num) (om)) U (.aj U U (.aj U U .nil)) ae U ?_
 refine .fa eB ?_
 refine .ai HY U U U U U U (aH U) U (.nil (.le (aY:=⟨[(4,.ptr 104 0 0 0),(6,vi (az p.width)),(7,.ptr 107 0 0 0)],[(104,.cells [vi 0,vi 0,vi 0,vn,.v (.int .u64 0),vi 0]),(107,.cells [vi (1 + ((p.kind:Int) % 10)),vi 0,vi (-1),vn,.v (.int .u64 ((gK (az p.width) p.num:Nat):Int)),vi 0])]⟩) (Le.mk (.c2 (.c .nil)) (.c (.c .nil))) ?_))
 refine .sr (.vl (Y.zb fA U U (aH U) U U) (.mv ?_))
 refine .ai g6 U U U U U U (aH U) U ?_
 refine .an ?_
 exact .nil (.sh (Sh.eu 104 399 1 3 U U U U ae) (.ret (⟨_,U,_,_,_,Sh.kL (d:=0) 3 399 U U U U sm U ae,U,U,(⟨1 + ((p.kind:Int) % 10),0,-1,([]:List Int),gK (az p.width) p.num,0⟩:Cell),_,ED hg om,U,U⟩)))
 refine .sr (.vl (Y.ql U U) (.an (.nil ?_)))
 refine .aA U (fun PT=>?_) (fun PT=>?_)
 refine .sr (.vl (Y.zb gm U U (aH U) U U) (.vl (Y.zb ES U U (aH U) U U) (.oP OH (Bb (n:=n) (p:=p) hn h0 hp hg hi) U (.aj U U (.aj U U .nil)) ae ?_)))
 rintro _ ⟨QE,ZO,V0,rfl,_⟩
 refine ⟨U,(.iX U U ae (.vl (Y.qn U U U) (.sh (Sh.Pj (d:=79) 3 2083 QE.args.length U U U ae (aU U)) (.ai g6 U U U U U U (aH U) U ?_))))⟩
 refine .an (.nil (.ret ?_))
 exact ⟨_,U,_,_,_,Sh.kL (d:=0) 3 2083 U U U U sm U ae,U,U,QE,_,V0,U,U⟩
 refine .sr (.vl (Y.ql U U) (.an (.nil ?_)))
 refine .aA U (fun Kc=>?_) (fun Kc=>?_)
 refine .gr U (.fe 0 U au gm U U U (aH U) U U ae (.blind 1 U au (ax.move U U) ae ?_))
 refine .fe 3 U au gm U U U (aH U) U U ae (.blind 4 U au (ax.move U U) ae (.blind 5 U au (ax.move U U) ae ?_))
 refine .fe 7 U au gm U U U (aH U) U U ae (.blind 8 U au (ax.move U U) ae (.fe 10 U au gm U U U (aH U) U U ae ?_))
 refine .blind 11 U au (ax.move U U) ae (.blind 12 U au (ax.fieldAddr pD U U) ae (.load 13 U au tl U U U U U ae ?_))
 refine .yj (.one 2 U au (.aZ jm (cu (n:=(⟨n.name,n.aa,n.cells,n.ins,n.aD,n.streams,[],[],n.freeze,n.done,[]⟩:ab)) (w:=1) (k:=p.a) (by show (n.aa).length <= 1048576; omega) om) U (.aj U U (.aj U U (.aj U U .nil))) ae U ?_))
 refine .nil ⟨U,(.one 6 U au (.aZ jm (cu (n:=(⟨n.name,n.aa,n.cells,n.ins,n.aD,n.streams,[],[],n.freeze,n.done,[]⟩:ab)) (w:=(az p.width)) (k:=p.b) (by show (n.aa).length <= 1048576; omega) om) U (.aj U U (.aj U U (.aj U U .nil))) ae U ?_))⟩
 refine .nil ⟨U,(.one 9 U au (.aZ jm (cu (n:=(⟨n.name,n.aa,n.cells,n.ins,n.aD,n.streams,[],[],n.freeze,n.done,[]⟩:ab)) (w:=1) (k:=p.d) (by show (n.aa).length <= 1048576; omega) om) U (.aj U U (.aj U U (.aj U U .nil))) ae U ?_))⟩
 refine .nil ⟨U,(.one 14 U au (.aZ jm (cu (n:=(⟨n.name,n.aa,n.cells,n.ins,n.aD,n.streams,[],[],n.freeze,n.done,[]⟩:ab)) (w:=(az p.width)) (k:=p.op) (by show (n.aa).length <= 1048576; omega) om) U (.aj U U (.aj U U (.aj U U .nil))) ae U ?_))⟩
 refine .nil ⟨U,(.one 15 U au (.buildSlice (([aB n.aa 1 p.a,aB n.aa (az p.width) p.b,aB n.aa 1 p.d,aB n.aa (az p.width) p.op]:List Int).map ah) a7 dD U U U U U (aq (s:=1) (f:=ah) (fun _=>U)) U U U ae ?_))⟩
 refine .nil ⟨U,(.one 16 U au (.fa bU ?_))⟩
 refine .nil ⟨U,(.one 17 U au (.sh (Sh.dr (d:=98) (n:=([aB n.aa 1 p.a,aB n.aa (az p.width) p.b,aB n.aa 1 p.d,aB n.aa (az p.width) p.op]:List Int).length) 198 (([aB n.aa 1 p.a,aB n.aa (az p.width) p.b,aB n.aa 1 p.d,aB n.aa (az p.width) p.op]:List Int).map ah) U iJ (aU U) ae) (.ai fJ U U U U U U (aH U) U ?_)))⟩
 refine .nil ⟨U,(.done au (.le (aY:=⟨[(4,.ptr 104 0 0 0),(6,vi (az p.width)),(7,.ptr 107 0 0 0)],[(104,.cells [vi 0,vi 0,vi 0,vn,.v (.int .u64 0),vi 0]),(107,.cells [vi (1 + ((p.kind:Int) % 10)),vi 0,vi (-1),.aL 198 1 0 (([aB n.aa 1 p.a,aB n.aa (az p.width) p.b,aB n.aa 1 p.d,aB n.aa (az p.width) p.op]:List Int).length),.v (.int .u64 0),vi 0]),(198,.rows 1 (([aB n.aa 1 p.a,aB n.aa (az p.width) p.b,aB n.aa 1 p.d,aB n.aa (az p.width) p.op]:List Int).map ah))]⟩) (Le.mk (.c2 (.c .nil)) (.c2 (.c .nil))) ?_))⟩
 refine .sr (.vl (Y.zb fA U U (aH U) U U) (.mv ?_))
 refine .ai g6 U U U U U U (aH U) U ?_
 refine .an (.nil (.ret ?_))
 exact ⟨_,U,_,_,_,Sh.kL (d:=0) 3 198 U U U U sm U ae,U,U,(⟨1 + ((p.kind:Int) % 10),0,-1,([aB n.aa 1 p.a,aB n.aa (az p.width) p.b,aB n.aa 1 p.d,aB n.aa (az p.width) p.op]:List Int),0,0⟩:Cell),_,KM hg om,U,U⟩
 refine .sr (.vl (Y.ql U U) (.an (.nil ?_)))
 refine .aA U (fun V1=>?_) (fun V1=>?_)
 refine .sr (.mv ?_)
 refine .fa tY ?_
 refine .ld iY ?_
 refine .aZ OI (wy (w:=(az p.width)) (x:=p.num) (om)) U (.aj U U (.aj U U .nil)) ae U ?_
 refine .fa eB ?_
 refine .ai HY U U U U U U (aH U) U (.nil (.le (aY:=⟨[(2,.fp (ab.rG n) 0),(4,.ptr 104 0 0 0),(6,vi (az p.width)),(7,.ptr 107 0 0 0),(8,.v (.int .u8 (p.a:Int))),(9,.v (.int .u8 (p.b:Int)))],[(104,.cells [vi 0,vi 0,vi 0,vn,.v (.int .u64 0),vi 0]),(107,.cells [vi (1 + ((p.kind:Int) % 10)),vi 0,vi (-1),vn,.v (.int .u64 ((gK (az p.width) p.num:Nat):Int)),vi 0])]⟩) (Le.mk (.c4 (.c (.c .nil))) (.c (.c .nil))) ?_))
 refine .gr U (.fe 0 U au gm U U U (aH U) U U ae (.blind 1 U au (ax.move U U) ae ?_))
 refine .fe 3 U au gm U U U (aH U) U U ae (.blind 4 U au (ax.move U U) ae (.blind 5 U au (ax.move U U) ae ?_))
 refine .yj (.one 2 U au (.aZ jm (cu (n:=(⟨n.name,n.aa,n.cells,n.ins,n.aD,n.streams,[],[],n.freeze,n.done,[]⟩:ab)) (w:=1) (k:=p.a) (by show (n.aa).length <= 1048576; omega) om) U (.aj U U (.aj U U (.aj U U .nil))) ae U ?_))
 refine .nil ⟨U,(.one 6 U au (.aZ jm (cu (n:=(⟨n.name,n.aa,n.cells,n.ins,n.aD,n.streams,[],[],n.freeze,n.done,[]⟩:ab)) (w:=(az p.width)) (k:=p.b) (by show (n.aa).length <= 1048576; omega) om) U (.aj U U (.aj U U (.aj U U .nil))) ae U ?_))⟩
 refine .nil ⟨U,(.one 7 U au (.buildSlice (([aB n.aa 1 p.a,aB n.aa (az p.width) p.b]:List Int).map ah) a7 dD U U U U U (aq (s:=1) (f:=ah) (fun _=>U)) U U U ae ?_))⟩
 refine .nil ⟨U,(.one 8 U au (.fa bU ?_))⟩
 refine .nil ⟨U,(.one 9 U au (.sh (Sh.dr (d:=114) (n:=([aB n.aa 1 p.a,aB n.aa (az p.width) p.b]:List Int).length) 214 (([aB n.aa 1 p.a,aB n.aa (az p.width) p.b]:List Int).map ah) U iJ (aU U) ae) (.ai fJ U U U U U U (aH U) U ?_)))⟩
 refine .nil ⟨U,(.done au (.le (aY:=⟨[(4,.ptr 104 0 0 0),(6,vi (az p.width)),(7,.ptr 107 0 0 0)],[(104,.cells [vi 0,vi 0,vi 0,vn,.v (.int .u64 0),vi 0]),(107,.cells [vi (1 + ((p.kind:Int) % 10)),vi 0,vi (-1),.aL 214 1 0 (([aB n.aa 1 p.a,aB n.aa (az p.width) p.b]:List Int).length),.v (.int .u64 ((gK (az p.width) p.num:Nat):Int)),vi 0]),(214,.rows 1 (([aB n.aa 1 p.a,aB n.aa (az p.width) p.b]:List Int).map ah))]⟩) (Le.mk (.c2 (.c .nil)) (.c2 (.c .nil))) ?_))⟩
 refine .sr (.vl (Y.zb fA U U (aH U) U U) (.mv ?_))
 refine .ai g6 U U U U U U (aH U) U ?_
 refine .an (.nil (.ret ?_))
 exact ⟨_,U,_,_,_,Sh.kL (d:=0) 3 214 U U U U sm U ae,U,U,(⟨1 + ((p.kind:Int) % 10),0,-1,([aB n.aa 1 p.a,aB n.aa (az p.width) p.b]:List Int),gK (az p.width) p.num,0⟩:Cell),_,KN hg om,U,U⟩
 refine .sr (.vl (Y.ql U U) (.an (.nil ?_)))
 refine .aA U (fun vm=>?_) (fun vm=>?_)
 refine .sr (.fa pD ?_)
 refine .ld tl ?_
 refine .vl (Y.zt U U aG) (.vl (Y.qk wT sD U zT) (.vl (Y.qb U U aG) (.fa fc ?_)))
 refine .ai dS U U U U U U (aH U) U (.nil (.sr (.fa tY ?_)))
 refine .ld iY ?_
 refine .vl (Y.zu (a:=p.num) (b:=4) U U om) (.vl (Y.qc (a:=1) (b:=(p.num % 4)) U U) (.fa eB ?_))
 refine .ai HY U U U U U U (aH U) U (.nil (.le (aY:=⟨[(2,.fp (ab.rG n) 0),(4,.ptr 104 0 0 0),(6,vi (az p.width)),(7,.ptr 107 0 0 0),(8,.v (.int .u8 (p.a:Int))),(9,.v (.int .u8 (p.b:Int)))],[(104,.cells [vi 0,vi 0,vi 0,vn,.v (.int .u64 0),vi 0]),(107,.cells [vi (1 + ((p.kind:Int) % 10)),vi (4 + ((p.op:Int) % 5)),vi (-1),vn,.v (.int .u64 (((1 + (p.num % 4)) % 18446744073709551616:Nat):Int)),vi 0])]⟩) (Le.mk (.c4 (.c (.c .nil))) (.c (.c .nil))) ?_))
 refine .gr U (.fe 0 U au gm U U U (aH U) U U ae (.blind 1 U au (ax.move U U) ae ?_))
 refine .blind 2 U au (ax.move U U) ae (.fe 4 U au gm U U U (aH U) U U ae (.blind 5 U au (ax.move U U) ae ?_))
 refine .blind 6 U au (ax.move U U) ae (.yj (.one 3 U au (.aZ jm (cu (n:=(⟨n.name,n.aa,n.cells,n.ins,n.aD,n.streams,[],[],n.freeze,n.done,[]⟩:ab)) (w:=(az p.width)) (k:=p.a) (by show (n.aa).length <= 1048576; omega) om) U (.aj U U (.aj U U (.aj U U .nil))) ae U ?_)))
 refine .nil ⟨U,(.one 7 U au (.aZ jm (cu (n:=(⟨n.name,n.aa,n.cells,n.ins,n.aD,n.streams,[],[],n.freeze,n.done,[]⟩:ab)) (w:=(az p.width)) (k:=p.b) (by show (n.aa).length <= 1048576; omega) om) U (.aj U U (.aj U U (.aj U U .nil))) ae U ?_))⟩
 refine .nil ⟨U,(.one 8 U au (.buildSlice (([aB n.aa (az p.width) p.a,aB n.aa (az p.width) p.b]:List Int).map ah) a7 dD U U U U U (aq (s:=1) (f:=ah) (fun _=>U)) U U U ae ?_))⟩
 refine .nil ⟨U,(.one 9 U au (.fa bU ?_))⟩
 refine .nil ⟨U,(.one 10 U au (.sh (Sh.dr (d:=137) (n:=([aB n.aa (az p.width) p.a,aB n.aa (az p.width) p.b]:List Int).length) 237 (([aB n.aa (az p.width) p.a,aB n.aa (az p.width) p.b]:List Int).map ah) U iJ (aU U) ae) (.ai fJ U U U U U U (aH U) U ?_)))⟩
 refine .nil ⟨U,(.done au (.le (aY:=⟨[(4,.ptr 104 0 0 0),(6,vi (az p.width)),(7,.ptr 107 0 0 0)],[(104,.cells [vi 0,vi 0,vi 0,vn,.v (.int .u64 0),vi 0]),(107,.cells [vi (1 + ((p.kind:Int) % 10)),vi (4 + ((p.op:Int) % 5)),vi (-1),.aL 237 1 0 (([aB n.aa (az p.width) p.a,aB n.aa (az p.width) p.b]:List Int).length),.v (.int .u64 (((1 + (p.num % 4)) % 18446744073709551616:Nat):Int)),vi 0]),(237,.rows 1 (([aB n.aa (az p.width) p.a,aB n.aa (az p.width) p.b]:List Int).map ah))]⟩) (Le.mk (.c2 (.c .nil)) (.c2 (.c .nil))) ?_))⟩
 refine .sr (.vl (Y.zb fA U U (aH U) U U) (.mv ?_))
 refine .ai g6 U U U U U U (aH U) U ?_
 refine .an (.nil (.ret ?_))
 exact ⟨_,U,_,_,_,Sh.kL (d:=0) 3 237 U U U U sm U ae,U,U,(⟨1 + ((p.kind:Int) % 10),4 + ((p.op:Int) % 5),-1,([aB n.aa (az p.width) p.a,aB n.aa (az p.width) p.b]:List Int),(1 + (p.num % 4)) % 18446744073709551616,0⟩:Cell),_,HL hg om om om,U,U⟩
 refine .seq (.sr (.vl (Y.ql U U) (.an (.nil ?_))))
 refine .bm U (fun Mm=>?_) (fun Mm=>?_)
 refine .skip (.aO U (.seq (.sr (.fa gZ ?_))))
 refine .ld pW ?_
 refine .vl (Y.qx (n:=n.aD.length) mV U fV) (.vl (Y.ql U U) (.nil (.aA U (fun AP=>?_) (fun AP=>?_))))
 refine .sr (.vl (Y.qh vB ez U U U) (.ai g6 U U U U U U (aH U) U ?_))
 refine .an ?_
 exact .nil (.sh (Sh.eu 104 399 1 3 U U U U ae) (.ret (⟨_,U,_,_,_,Sh.kL (d:=0) 3 399 U U U U sm U ae,U,U,(⟨0,0,0,([]:List Int),0,0⟩:Cell),_,tV hg,U,U⟩)))
 refine .skip (.sr (.fa pD ?_))
 refine .ld tl ?_
 refine .vl (Y.qk wT sD U zT) (.fa gZ ?_)
 refine .ld pW ?_
 refine .vl (Y.qx (n:=n.aD.length) mV U fV) (.vl (Y.zt U U aG) (.fa dv ?_))
 refine .ai dS U U U U U U (aH U) U (.nil (.seq ?_))
 have V4:p.op % n.aD.length < n.aD.length:=Nat.mod_lt _ om
 refine .region (.fa gZ ?_)
 refine .ld pW ?_
 refine .fa dv ?_
 refine .ld bj ?_
 refine .vl (Y.qs (m:=p.op % n.aD.length) mV U U bc (ao (d:=default) om)) (.fa rJ ?_)
 refine .ld bj ?_
 refine .an ?_
 refine .nil (.le (aY:=⟨[(2,.fp (ab.rG n) 0),(4,.ptr 104 0 0 0),(6,vi ((n.aD.getD (p.op % n.aD.length) default).width)),(7,.ptr 107 0 0 0),(8,.v (.int .u8 (p.a:Int))),(9,.v (.int .u8 (p.b:Int))),(10,.v (.int .u8 (p.d:Int)))],[(104,.cells [vi 0,vi 0,vi 0,vn,.v (.int .u64 0),vi 0]),(107,.cells [vi (1 + ((p.kind:Int) % 10)),vi 0,vi (-1),vn,.v (.int .u64 0),vi ((p.op:Int) % (n.aD.length:Int))])]⟩) (Le.mk (.c4 (.c2 (.c .nil))) (.c (.c .nil))) ?_)
 refine .seq (.gr U (.fe 0 U au gm U U U (aH U) U U ae ?_))
 refine .blind 1 U au (ax.move U U) ae (.blind 3 U au (ax.move U U) ae ?_)
 refine .blind 4 U au (ax.wo wT sD U zT) ae ?_
 refine .blind 5 U au (ax.fieldAddr bO U U) ae (.load 6 U au bt U U U U U ae (.blind 7 U au (ax.len (n:=n.aa.length) a7 U fV) ae ?_))
 refine .blind 8 U au (ax.EZ U U om) ae ?_
 refine .yj (.one 2 U au (.aZ jm (cu (n:=(⟨n.name,n.aa,n.cells,n.ins,n.aD,n.streams,[],[],n.freeze,n.done,[]⟩:ab)) (w:=1) (k:=p.a) (by show (n.aa).length <= 1048576; omega) om) U (.aj U U (.aj U U (.aj U U .nil))) ae U ?_))
 refine .nil ⟨U,(.one 9 U au (.buildSlice (([aB n.aa 1 p.a,(p.b:Int) % (n.aa.length:Int)]:List Int).map ah) a7 dD U U U U U (aq (s:=1) (f:=ah) (fun _=>U)) U U U ae ?_))⟩
 refine .nil ⟨U,(.one 10 U au (.fa bU ?_))⟩
 refine .nil ⟨U,(.one 11 U au (.sh (Sh.dr (d:=171) (n:=([aB n.aa 1 p.a,(p.b:Int) % (n.aa.length:Int)]:List Int).length) 271 (([aB n.aa 1 p.a,(p.b:Int) % (n.aa.length:Int)]:List Int).map ah) U iJ (aU U) ae) (.ai fJ U U U U U U (aH U) U ?_)))⟩
 refine .nil ⟨U,(.done au (.le (aY:=⟨[(2,.fp (ab.rG n) 0),(4,.ptr 104 0 0 0),(6,vi ((n.aD.getD (p.op % n.aD.length) default).width)),(7,.ptr 107 0 0 0),(10,.v (.int .u8 (p.d:Int)))],[(104,.cells [vi 0,vi 0,vi 0,vn,.v (.int .u64 0),vi 0]),(107,.cells [vi (1 + ((p.kind:Int) % 10)),vi 0,vi (-1),.aL 271 1 0 (([aB n.aa 1 p.a,(p.b:Int) % (n.aa.length:Int)]:List Int).length),.v (.int .u64 0),vi ((p.op:Int) % (n.aD.length:Int))]),(271,.rows 1 (([aB n.aa 1 p.a,(p.b:Int) % (n.aa.length:Int)]:List Int).map ah))]⟩) (Le.mk (.c4 (.c .nil)) (.c2 (.c .nil))) (.sr (.fa dC ?_))))⟩
 refine .ld bj ?_
 refine .vl (Y.ql U U) (.nil (.aA U (fun Mn=>?_) (fun Mn=>?_)))
 refine .dW (⟨[(4,.ptr 104 0 0 0),(6,.v (.int .i64 ((n.aD.getD (p.op % n.aD.length) default).width))),(7,.ptr 107 0 0 0)],[(104,.cells [.v (.int .i64 0),.v (.int .i64 0),.v (.int .i64 0),vn,.v (.int .u64 0),.v (.int .i64 0)]),(107,.cells [.v (.int .i64 (1 + ((p.kind:Int) % 10))),.v (.int .i64 0),.v (.int .i64 (-1)),.aL 271 1 0 ((([aB n.aa 1 p.a,(p.b:Int) % (n.aa.length:Int)]:List Int) ++ ([aB n.aa ((n.aD.getD (p.op % n.aD.length) default).width) p.d]:List Int)).length),.v (.int .u64 0),.v (.int .i64 ((p.op:Int) % (n.aD.length:Int)))]),(271,.rows 1 ((([aB n.aa 1 p.a,(p.b:Int) % (n.aa.length:Int)]:List Int) ++ ([aB n.aa ((n.aD.getD (p.op % n.aD.length) default).width) p.d]:List Int)).map ah))]⟩) U ?_ ?_
 refine .blind 0 U au (ax.fieldAddr bU U U) ae (.fe 2 U au gm U U U (aH U) U U ae (.blind 3 U au (ax.move U U) ae ?_))
 refine .blind 4 U au (ax.move U U) ae (.yj ?_)
 refine .two 1 5 U U au ?_ ?_
 refine .ld bt ?_
 refine .nil ⟨U,(.one 5 U au (.aZ jm (cu (n:=(⟨n.name,n.aa,n.cells,n.ins,n.aD,n.streams,[],[],n.freeze,n.done,[]⟩:ab)) (w:=((n.aD.getD (p.op % n.aD.length) default).width)) (k:=p.d) (by show (n.aa).length <= 1048576; omega) om) U (.aj U U (.aj U U (.aj U U .nil))) ae U ?_))⟩
 refine .nil ⟨U,(.one 6 U au (.buildSlice (([aB n.aa ((n.aD.getD (p.op % n.aD.length) default).width) p.d]:List Int).map ah) a7 dD U U U U U (aq (s:=1) (f:=ah) (fun _=>U)) U U U ae ?_))⟩
 refine .nil ⟨U,(.one 7 U au (.cL ah (([aB n.aa 1 p.a,(p.b:Int) % (n.aa.length:Int)]:List Int) ++ ([aB n.aa ((n.aD.getD (p.op % n.aD.length) default).width) p.d]:List Int)) a7 dD U U U U (bg aG) (aR aG) (bz aG) aG aG ae ae ?_))⟩
 refine .nil ⟨U,(.one 8 U au (.fa bU ?_))⟩
 refine .nil ⟨U,(.one 9 U au (.ai fJ U U U U U U (aH U) U ?_))⟩
 exact .nil ⟨U,(.done au (Le.mk (.c2 (.c .nil)) (.c2 (.c .nil))))⟩
 refine .aZ jm (cu (n:=(⟨n.name,n.aa,n.cells,n.ins,n.aD,n.streams,[],[],n.freeze,n.done,[]⟩:ab)) (w:=((n.aD.getD (p.op % n.aD.length) default).width)) (k:=p.d) (by show (n.aa).length <= 1048576; omega) om) U (.aj U U (.aj U U (.aj U U .nil))) ae U ?_
 refine .nil ⟨U,(.two 1 6 U U au ?_ ?_)⟩
 refine .ld bt ?_
 refine .nil ⟨U,(.one 6 U au (.buildSlice (([aB n.aa ((n.aD.getD (p.op % n.aD.length) default).width) p.d]:List Int).map ah) a7 dD U U U U U (aq (s:=1) (f:=ah) (fun _=>U)) U U U ae ?_))⟩
 refine .nil ⟨U,(.one 7 U au (.cL ah (([aB n.aa 1 p.a,(p.b:Int) % (n.aa.length:Int)]:List Int) ++ ([aB n.aa ((n.aD.getD (p.op % n.aD.length) default).width) p.d]:List Int)) a7 dD U U U U (bg aG) (aR aG) (bz aG) aG aG ae ae ?_))⟩
 refine .nil ⟨U,(.one 8 U au (.fa bU ?_))⟩
 refine .nil ⟨U,(.one 9 U au (.ai fJ U U U U U U (aH U) U ?_))⟩
 exact .nil ⟨U,(.done au (Le.mk (.c2 (.c .nil)) (.c2 (.c .nil))))⟩
 refine .buildSlice (([aB n.aa ((n.aD.getD (p.op % n.aD.length) default).width) p.d]:List Int).map ah) a7 dD U U U U U (aq (s:=1) (f:=ah) (fun _=>U)) U U U ae ?_
 refine .nil ⟨U,(.one 1 U au (.ld bt ?_))⟩
 refine .nil ⟨U,(.one 7 U au (.cL ah (([aB n.aa 1 p.a,(p.b:Int) % (n.aa.length:Int)]:List Int) ++ ([aB n.aa ((n.aD.getD (p.op % n.aD.length) default).width) p.d]:List Int)) a7 dD U U U U (bg aG) (aR aG) (bz aG) aG aG ae ae ?_))⟩
 refine .nil ⟨U,(.one 8 U au (.fa bU ?_))⟩
 refine .nil ⟨U,(.one 9 U au (.ai fJ U U U U U U (aH U) U ?_))⟩
 exact .nil ⟨U,(.done au (Le.mk (.c2 (.c .nil)) (.c2 (.c .nil))))⟩
 refine .le (aY:=⟨[(4,.ptr 104 0 0 0),(6,vi ((n.aD.getD (p.op % n.aD.length) default).width)),(7,.ptr 107 0 0 0)],[(104,.cells [vi 0,vi 0,vi 0,vn,.v (.int .u64 0),vi 0]),(107,.cells [vi (1 + ((p.kind:Int) % 10)),vi 0,vi (-1),.aL 271 1 0 ((([aB n.aa 1 p.a,(p.b:Int) % (n.aa.length:Int)]:List Int) ++ ([aB n.aa ((n.aD.getD (p.op % n.aD.length) default).width) p.d]:List Int)).length),.v (.int .u64 0),vi ((p.op:Int) % (n.aD.length:Int))]),(271,.rows 1 ((([aB n.aa 1 p.a,(p.b:Int) % (n.aa.length:Int)]:List Int) ++ ([aB n.aa ((n.aD.getD (p.op % n.aD.length) default).width) p.d]:List Int)).map ah))]⟩) (Le.mk (.c2 (.c .nil)) (.c2 (.c .nil))) ?_
 refine .sr (.vl (Y.zb fA U U (aH U) U U) (.mv ?_))
 refine .ai g6 U U U U U U (aH U) U ?_
 refine .an (.nil (.ret ?_))
 exact ⟨_,U,_,_,_,Sh.kL (d:=0) 3 271 U U U U sm U ae,U,U,(⟨1 + ((p.kind:Int) % 10),0,-1,([aB n.aa 1 p.a,(p.b:Int) % (n.aa.length:Int)]:List Int) ++ ([aB n.aa ((n.aD.getD (p.op % n.aD.length) default).width) p.d]:List Int),0,(p.op:Int) % (n.aD.length:Int)⟩:Cell),_,xX hg h0 om om,U,U⟩
 refine .skip (.le (aY:=⟨[(4,.ptr 104 0 0 0),(6,vi ((n.aD.getD (p.op % n.aD.length) default).width)),(7,.ptr 107 0 0 0)],[(104,.cells [vi 0,vi 0,vi 0,vn,.v (.int .u64 0),vi 0]),(107,.cells [vi (1 + ((p.kind:Int) % 10)),vi 0,vi (-1),.aL 271 1 0 (([aB n.aa 1 p.a,(p.b:Int) % (n.aa.length:Int)]:List Int).length),.v (.int .u64 0),vi ((p.op:Int) % (n.aD.length:Int))]),(271,.rows 1 (([aB n.aa 1 p.a,(p.b:Int) % (n.aa.length:Int)]:List Int).map ah))]⟩) (Le.mk (.c2 (.c .nil)) (.c2 (.c .nil))) ?_)
 refine .sr (.vl (Y.zb fA U U (aH U) U U) (.mv ?_))
 refine .ai g6 U U U U U U (aH U) U ?_
 refine .an (.nil (.ret ?_))
 exact ⟨_,U,_,_,_,Sh.kL (d:=0) 3 271 U U U U sm U ae,U,U,(⟨1 + ((p.kind:Int) % 10),0,-1,([aB n.aa 1 p.a,(p.b:Int) % (n.aa.length:Int)]:List Int),0,(p.op:Int) % (n.aD.length:Int)⟩:Cell),_,BA hg h0 om om,U,U⟩
 refine .region (.vl (Y.ql U U) (.an (.nil ?_)))
 refine .bm U (fun Mm=>?_) (fun Mm=>?_)
 refine .seq (.sr (.fa gZ ?_))
 refine .ld pW ?_
 refine .vl (Y.qx (n:=n.aD.length) mV U fV) (.vl (Y.ql U U) (.nil (.aA U (fun AP=>?_) (fun AP=>?_))))
 refine .sr (.vl (Y.qh vB ez U U U) (.ai g6 U U U U U U (aH U) U ?_))
 refine .an ?_
 exact .nil (.sh (Sh.eu 104 399 1 3 U U U U ae) (.ret (⟨_,U,_,_,_,Sh.kL (d:=0) 3 399 U U U U sm U ae,U,U,(⟨0,0,0,([]:List Int),0,0⟩:Cell),_,tV hg,U,U⟩)))
 refine .skip (.sr (.fa pD ?_))
 refine .ld tl ?_
 refine .vl (Y.qk wT sD U zT) (.fa gZ ?_)
 refine .ld pW ?_
 refine .vl (Y.qx (n:=n.aD.length) mV U fV) (.vl (Y.zt U U aG) (.fa dv ?_))
 refine .ai dS U U U U U U (aH U) U (.nil (.seq ?_))
 have V4:p.op % n.aD.length < n.aD.length:=Nat.mod_lt _ om
 refine .region (.fa gZ ?_)
 refine .ld pW ?_
 refine .fa dv ?_
 refine .ld bj ?_
 refine .vl (Y.qs (m:=p.op % n.aD.length) mV U U bc (ao (d:=default) om)) (.fa rJ ?_)
 refine .ld bj ?_
 refine .an ?_
 refine .nil (.le (aY:=⟨[(2,.fp (ab.rG n) 0),(4,.ptr 104 0 0 0),(6,vi ((n.aD.getD (p.op % n.aD.length) default).width)),(7,.ptr 107 0 0 0),(8,.v (.int .u8 (p.a:Int))),(9,.v (.int .u8 (p.b:Int))),(10,.v (.int .u8 (p.d:Int)))],[(104,.cells [vi 0,vi 0,vi 0,vn,.v (.int .u64 0),vi 0]),(107,.cells [vi (1 + ((p.kind:Int) % 10)),vi 0,vi (-1),vn,.v (.int .u64 0),vi ((p.op:Int) % (n.aD.length:Int))])]⟩) (Le.mk (.c4 (.c2 (.c .nil))) (.c (.c .nil))) ?_)
 refine .seq (.gr U (.fe 0 U au gm U U U (aH U) U U ae ?_))
 refine .blind 1 U au (ax.move U U) ae (.blind 3 U au (ax.move U U) ae ?_)
 refine .blind 4 U au (ax.wo wT sD U zT) ae ?_
 refine .blind 5 U au (ax.fieldAddr bO U U) ae (.load 6 U au bt U U U U U ae (.blind 7 U au (ax.len (n:=n.aa.length) a7 U fV) ae ?_))
 refine .blind 8 U au (ax.EZ U U om) ae ?_
 refine .yj (.one 2 U au (.aZ jm (cu (n:=(⟨n.name,n.aa,n.cells,n.ins,n.aD,n.streams,[],[],n.freeze,n.done,[]⟩:ab)) (w:=1) (k:=p.a) (by show (n.aa).length <= 1048576; omega) om) U (.aj U U (.aj U U (.aj U U .nil))) ae U ?_))
 refine .nil ⟨U,(.one 9 U au (.buildSlice (([aB n.aa 1 p.a,(p.b:Int) % (n.aa.length:Int)]:List Int).map ah) a7 dD U U U U U (aq (s:=1) (f:=ah) (fun _=>U)) U U U ae ?_))⟩
 refine .nil ⟨U,(.one 10 U au (.fa bU ?_))⟩
 refine .nil ⟨U,(.one 11 U au (.sh (Sh.dr (d:=171) (n:=([aB n.aa 1 p.a,(p.b:Int) % (n.aa.length:Int)]:List Int).length) 271 (([aB n.aa 1 p.a,(p.b:Int) % (n.aa.length:Int)]:List Int).map ah) U iJ (aU U) ae) (.ai fJ U U U U U U (aH U) U ?_)))⟩
 refine .nil ⟨U,(.done au (.le (aY:=⟨[(2,.fp (ab.rG n) 0),(4,.ptr 104 0 0 0),(6,vi ((n.aD.getD (p.op % n.aD.length) default).width)),(7,.ptr 107 0 0 0),(10,.v (.int .u8 (p.d:Int)))],[(104,.cells [vi 0,vi 0,vi 0,vn,.v (.int .u64 0),vi 0]),(107,.cells [vi (1 + ((p.kind:Int) % 10)),vi 0,vi (-1),.aL 271 1 0 (([aB n.aa 1 p.a,(p.b:Int) % (n.aa.length:Int)]:List Int).length),.v (.int .u64 0),vi ((p.op:Int) % (n.aD.length:Int))]),(271,.rows 1 (([aB n.aa 1 p.a,(p.b:Int) % (n.aa.length:Int)]:List Int).map ah))]⟩) (Le.mk (.c4 (.c .nil)) (.c2 (.c .nil))) (.sr (.fa dC ?_))))⟩
 refine .ld bj ?_
 refine .vl (Y.ql U U) (.nil (.aA U (fun Mn=>?_) (fun Mn=>?_)))
 refine .dW (⟨[(4,.ptr 104 0 0 0),(6,.v (.int .i64 ((n.aD.getD (p.op % n.aD.length) default).width))),(7,.ptr 107 0 0 0)],[(104,.cells [.v (.int .i64 0),.v (.int .i64 0),.v (.int .i64 0),vn,.v (.int .u64 0),.v (.int .i64 0)]),(107,.cells [.v (.int .i64 (1 + ((p.kind:Int) % 10))),.v (.int .i64 0),.v (.int .i64 (-1)),.aL 271 1 0 ((([aB n.aa 1 p.a,(p.b:Int) % (n.aa.length:Int)]:List Int) ++ ([aB n.aa ((n.aD.getD (p.op % n.aD.length) default).width) p.d]:List Int)).length),.v (.int .u64 0),.v (.int .i64 ((p.op:Int) % (n.aD.length:Int)))]),(271,.rows 1 ((([aB n.aa 1 p.a,(p.b:Int) % (n.aa.length:Int)]:List Int) ++ ([aB n.aa ((n.aD.getD (p.op % n.aD.length) default).width) p.d]:List Int)).map ah))]⟩) U ?_ ?_
 refine .blind 0 U au (ax.fieldAddr bU U U) ae (.fe 2 U au gm U U U (aH U) U U ae (.blind 3 U au (ax.move U U) ae ?_))
 refine .blind 4 U au (ax.move U U) ae (.yj ?_)
 refine .two 1 5 U U au ?_ ?_
 refine .ld bt ?_
 refine .nil ⟨U,(.one 5 U au (.aZ jm (cu (n:=(⟨n.name,n.aa,n.cells,n.ins,n.aD,n.streams,[],[],n.freeze,n.done,[]⟩:ab)) (w:=((n.aD.getD (p.op % n.aD.length) default).width)) (k:=p.d) (by show (n.aa).length <= 1048576; omega) om) U (.aj U U (.aj U U (.aj U U .nil))) ae U ?_))⟩
 refine .nil ⟨U,(.one 6 U au (.buildSlice (([aB n.aa ((n.aD.getD (p.op % n.aD.length) default).width) p.d]:List Int).map ah) a7 dD U U U U U (aq (s:=1) (f:=ah) (fun _=>U)) U U U ae ?_))⟩
 refine .nil ⟨U,(.one 7 U au (.cL ah (([aB n.aa 1 p.a,(p.b:Int) % (n.aa.length:Int)]:List Int) ++ ([aB n.aa ((n.aD.getD (p.op % n.aD.length) default).width) p.d]:List Int)) a7 dD U U U U (bg aG) (aR aG) (bz aG) aG aG ae ae ?_))⟩
 refine .nil ⟨U,(.one 8 U au (.fa bU ?_))⟩
 refine .nil ⟨U,(.one 9 U au (.ai fJ U U U U U U (aH U) U ?_))⟩
 exact .nil ⟨U,(.done au (Le.mk (.c2 (.c .nil)) (.c2 (.c .nil))))⟩
 refine .aZ jm (cu (n:=(⟨n.name,n.aa,n.cells,n.ins,n.aD,n.streams,[],[],n.freeze,n.done,[]⟩:ab)) (w:=((n.aD.getD (p.op % n.aD.length) default).width)) (k:=p.d) (by show (n.aa).length <= 1048576; omega) om) U (.aj U U (.aj U U (.aj U U .nil))) ae U ?_
 refine .nil ⟨U,(.two 1 6 U U au ?_ ?_)⟩
 refine .ld bt ?_
 refine .nil ⟨U,(.one 6 U au (.buildSlice (([aB n.aa ((n.aD.getD (p.op % n.aD.length) default).width) p.d]:List Int).map ah) a7 dD U U U U U (aq (s:=1) (f:=ah) (fun _=>U)) U U U ae ?_))⟩
 refine .nil ⟨U,(.one 7 U au (.cL ah (([aB n.aa 1 p.a,(p.b:Int) % (n.aa.length:Int)]:List Int) ++ ([aB n.aa ((n.aD.getD (p.op % n.aD.length) default).width) p.d]:List Int)) a7 dD U U U U (bg aG) (aR aG) (bz aG) aG aG ae ae ?_))⟩
 refine .nil ⟨U,(.one 8 U au (.fa bU ?_))⟩
 refine .nil ⟨U,(.one 9 U au (.ai fJ U U U U U U (aH U) U ?_))⟩
 exact .nil ⟨U,(.done au (Le.mk (.c2 (.c .nil)) (.c2 (.c .nil))))⟩
 refine .buildSlice (([aB n.aa ((n.aD.getD (p.op % n.aD.length) default).width) p.d]:List Int).map ah) a7 dD U U U U U (aq (s:=1) (f:=ah) (fun _=>U)) U U U ae ?_
 refine .nil ⟨U,(.one 1 U au (.ld bt ?_))⟩
 refine .nil ⟨U,(.one 7 U au (.cL ah (([aB n.aa 1 p.a,(p.b:Int) % (n.aa.length:Int)]:List Int) ++ ([aB n.aa ((n.aD.getD (p.op % n.aD.length) default).width) p.d]:List Int)) a7 dD U U U U (bg aG) (aR aG) (bz aG) aG aG ae ae ?_))⟩
 refine .nil ⟨U,(.one 8 U au (.fa bU ?_))⟩
 refine .nil ⟨U,(.one 9 U au (.ai fJ U U U U U U (aH U) U ?_))⟩
 exact .nil ⟨U,(.done au (Le.mk (.c2 (.c .nil)) (.c2 (.c .nil))))⟩
 refine .le (aY:=⟨[(4,.ptr 104 0 0 0),(6,vi ((n.aD.getD (p.op % n.aD.length) default).width)),(7,.ptr 107 0 0 0)],[(104,.cells [vi 0,vi 0,vi 0,vn,.v (.int .u64 0),vi 0]),(107,.cells [vi (1 + ((p.kind:Int) % 10)),vi 0,vi (-1),.aL 271 1 0 ((([aB n.aa 1 p.a,(p.b:Int) % (n.aa.length:Int)]:List Int) ++ ([aB n.aa ((n.aD.getD (p.op % n.aD.length) default).width) p.d]:List Int)).length),.v (.int .u64 0),vi ((p.op:Int) % (n.aD.length:Int))]),(271,.rows 1 ((([aB n.aa 1 p.a,(p.b:Int) % (n.aa.length:Int)]:List Int) ++ ([aB n.aa ((n.aD.getD (p.op % n.aD.length) default).width) p.d]:List Int)).map ah))]⟩) (Le.mk (.c2 (.c .nil)) (.c2 (.c .nil))) ?_
 refine .sr (.vl (Y.zb fA U U (aH U) U U) (.mv ?_))
 refine .ai g6 U U U U U U (aH U) U ?_
 refine .an (.nil (.ret ?_))
 exact ⟨_,U,_,_,_,Sh.kL (d:=0) 3 271 U U U U sm U ae,U,U,(⟨1 + ((p.kind:Int) % 10),0,-1,([aB n.aa 1 p.a,(p.b:Int) % (n.aa.length:Int)]:List Int) ++ ([aB n.aa ((n.aD.getD (p.op % n.aD.length) default).width) p.d]:List Int),0,(p.op:Int) % (n.aD.length:Int)⟩:Cell),_,xX hg h0 om om,U,U⟩
 refine .skip (.le (aY:=⟨[(4,.ptr 104 0 0 0),(6,vi ((n.aD.getD (p.op % n.aD.length) default).width)),(7,.ptr 107 0 0 0)],[(104,.cells [vi 0,vi 0,vi 0,vn,.v (.int .u64 0),vi 0]),(107,.cells [vi (1 + ((p.kind:Int) % 10)),vi 0,vi (-1),.aL 271 1 0 (([aB n.aa 1 p.a,(p.b:Int) % (n.aa.length:Int)]:List Int).length),.v (.int .u64 0),vi ((p.op:Int) % (n.aD.length:Int))]),(271,.rows 1 (([aB n.aa 1 p.a,(p.b:Int) % (n.aa.length:Int)]:List Int).map ah))]⟩) (Le.mk (.c2 (.c .nil)) (.c2 (.c .nil))) ?_)
 refine .sr (.vl (Y.zb fA U U (aH U) U U) (.mv ?_))
 refine .ai g6 U U U U U U (aH U) U ?_
 refine .an (.nil (.ret ?_))
 exact ⟨_,U,_,_,_,Sh.kL (d:=0) 3 271 U U U U sm U ae,U,U,(⟨1 + ((p.kind:Int) % 10),0,-1,([aB n.aa 1 p.a,(p.b:Int) % (n.aa.length:Int)]:List Int),0,(p.op:Int) % (n.aD.length:Int)⟩:Cell),_,BA hg h0 om om,U,U⟩
 refine .sr (.vl (Y.ql U U) (.an (.nil ?_)))
 refine .aA U (fun V5=>?_) (fun V5=>?_)
 refine .seq (.sr (.fa lb ?_))
 refine .ld bt ?_
 refine .vl (Y.qx (n:=n.ins.length) a7 U fV) (.vl (Y.ql U U) (.nil (.aA U (fun V6=>?_) (fun V6=>?_))))
 refine .sr (.vl (Y.qh vB ez U U U) (.ai g6 U U U U U U (aH U) U ?_))
 refine .an ?_
 exact .nil (.sh (Sh.eu 104 399 1 3 U U U U ae) (.ret (⟨_,U,_,_,_,Sh.kL (d:=0) 3 399 U U U U sm U ae,U,U,(⟨0,0,0,([]:List Int),0,0⟩:Cell),_,tV hg,U,U⟩)))
 refine .skip (.sr (.fa tY ?_))
 refine .ld iY ?_
 refine .fa lb ?_
 refine .ld bt ?_
 refine .vl (Y.qx (n:=n.ins.length) a7 U fV) (.vl (Y.qk sD yb U (by first | rfl | exact IntWalk.u64_in _ om)) (.vl (Y.zu (a:=p.num) (b:=n.ins.length) U U om) (.fa eB ?_)))
 refine .ai HY U U U U U U (aH U) U (.nil ?_)
 have V4:p.num % n.ins.length < n.ins.length:=Nat.mod_lt _ om
 refine .region (.fa lb ?_)
 refine .ld bt ?_
 refine .fa eB ?_
 refine .ld iY ?_
 refine .vl (Y.qs (m:=p.num % n.ins.length) a7 U U bc (ao (d:=0) om)) (.ld bj ?_)
 refine .an ?_
 refine .nil (.le (aY:=⟨[(4,.ptr 104 0 0 0),(6,vi (n.ins.getD (p.num % n.ins.length) 0)),(7,.ptr 107 0 0 0)],[(104,.cells [vi 0,vi 0,vi 0,vn,.v (.int .u64 0),vi 0]),(107,.cells [vi (1 + ((p.kind:Int) % 10)),vi 0,vi (-1),vn,.v (.int .u64 ((p.num % n.ins.length:Nat):Int)),vi 0])]⟩) (Le.mk (.c2 (.c .nil)) (.c (.c .nil))) ?_)
 refine .sr (.vl (Y.zb fA U U (aH U) U U) (.mv ?_))
 refine .ai g6 U U U U U U (aH U) U ?_
 refine .an ?_
 exact .nil (.sh (Sh.eu 104 399 1 3 U U U U ae) (.ret (⟨_,U,_,_,_,Sh.kL (d:=0) 3 399 U U U U sm U ae,U,U,(⟨1 + ((p.kind:Int) % 10),0,-1,([]:List Int),p.num % n.ins.length,0⟩:Cell),_,EE hg om om hi,U,U⟩)))
 refine .seq (.sr (.fa eS ?_))
 refine .ld lT ?_
 refine .vl (Y.qx (n:=n.streams.length) jH U fV) (.vl (Y.ql U U) (.nil (.aA U (fun xz=>?_) (fun xz=>?_))))
 refine .sr (.vl (Y.qh vB ez U U U) (.ai g6 U U U U U U (aH U) U ?_))
 refine .an ?_
 exact .nil (.sh (Sh.eu 104 399 1 3 U U U U ae) (.ret (⟨_,U,_,_,_,Sh.kL (d:=0) 3 399 U U U U sm U ae,U,U,(⟨0,0,0,([]:List Int),0,0⟩:Cell),_,tV hg,U,U⟩)))
 refine .skip (.sr (.fa pD ?_))
 refine .ld tl ?_
 refine .vl (Y.qk wT sD U zT) (.fa eS ?_)
 refine .ld lT ?_
 refine .vl (Y.qx (n:=n.streams.length) jH U fV) (.vl (Y.zt U U aG) (.fa dv ?_))
 refine .ai dS U U U U U U (aH U) U (.nil (.seq ?_))
 have V4:p.op % n.streams.length < n.streams.length:=Nat.mod_lt _ om
 refine .region (.fa eS ?_)
 refine .ld lT ?_
 refine .fa dv ?_
 refine .ld bj ?_
 refine .vl (Y.qs (m:=p.op % n.streams.length) jH U U bc (ao (d:=default) om)) (.fa rK ?_)
 refine .ld bj ?_
 refine .an ?_
 refine .nil (.le (aY:=⟨[(2,.fp (ab.rG n) 0),(4,.ptr 104 0 0 0),(6,vi ((n.streams.getD (p.op % n.streams.length) default).width)),(7,.ptr 107 0 0 0)],[(104,.cells [vi 0,vi 0,vi 0,vn,.v (.int .u64 0),vi 0]),(107,.cells [vi (1 + ((p.kind:Int) % 10)),vi 0,vi (-1),vn,.v (.int .u64 0),vi ((p.op:Int) % (n.streams.length:Int))])]⟩) (Le.mk (.c2 (.c (.c .nil))) (.c (.c .nil))) ?_)
 refine .iC (fun (jc:Nat)=>⟨[(4,.ptr 104 0 0 0),(6,vi ((n.streams.getD (p.op % n.streams.length) default).width)),(7,.ptr 107 0 0 0)],[(104,.cells [vi 0,vi 0,vi 0,vn,.v (.int .u64 0),vi 0]),(107,.cells [vi jc,vi 0,vi (-1),vn,.v (.int .u64 0),vi ((p.op:Int) % (n.streams.length:Int))])]⟩) (fun jc=>(((1 + ((p.kind:Int) % 10)) = 10) /\ (((n.streams.getD (p.op % n.streams.length) default).out) = true) /\ (jc = 9)) \/ (((1 + ((p.kind:Int) % 10)) = 10) /\ (((n.streams.getD (p.op % n.streams.length) default).out) = false) /\ (jc = (1 + (p.kind % 10)))) \/ ((¬ ((1 + ((p.kind:Int) % 10)) = 10)) /\ (jc = (1 + (p.kind % 10))))) ?_ (fun jc Gb=>?_)
 refine .sr (.fa dC ?_)
 refine .ld bj ?_
 refine .vl (Y.ql U U) (.mv ?_)
 refine .aC (d:=54) U (fun Hh=>?_) (fun Hh=>?_)
 refine .gw 54 (Y.qp eS U U) (.gw 54 (Y.za lT U U U U) (.gw 54 (Y.qp dv U U) (.gw 54 (Y.za bj U U U U) (.gw 54 (Y.qs (m:=p.op % n.streams.length) jH U U bc (ao (d:=default) om)) (.gw 54 (Y.qp k9 U U) (.gw 54 (Y.za Af U U U U) (.pk ?_)))))))
 refine .nil (.cond U (fun PK=>?_) (fun PK=>?_))
 refine .region (.fa dC ?_)
 exact .ai dS U U U U U U (aH U) U (.nil (⟨9,.inl ⟨Hh,PK,U⟩,Le.mk (.c2 (.c .nil)) (.c (.cons (ay U eR) .nil))⟩))
 refine .skip (⟨1 + (p.kind % 10),.inr (.inl ⟨Hh,PK,U⟩),Le.mk (.c2 (.c .nil)) (.c (.cons (ay U eR) .nil))⟩)
 refine .gz 54 (.gz 54 (.gz 54 (.gz 54 (.gz 54 (.gz 54 (.gz 54 (.pk ?_)))))))
 exact .nil (.cZ U (.skip (⟨1 + (p.kind % 10),.inr (.inr (⟨Hh,U⟩)),Le.mk (.c2 (.c .nil)) (.c (.cons (ay U eR) .nil))⟩)))
 refine .sr (.fa dC ?_)
 refine .ld bj ?_
 refine .vl (Y.ql U U) (.nil (.aA U (fun UM=>?_) (fun UM=>?_)))
 refine .region (.an ?_)
 refine .nil (.le (aY:=⟨[(4,.ptr 104 0 0 0),(6,vi 1),(7,.ptr 107 0 0 0)],[(104,.cells [vi 0,vi 0,vi 0,vn,.v (.int .u64 0),vi 0]),(107,.cells [vi jc,vi 0,vi (-1),vn,.v (.int .u64 0),vi ((p.op:Int) % (n.streams.length:Int))])]⟩) (Le.mk (.c2 (.c .nil)) (.c (.c .nil))) ?_)
 refine .sr (.vl (Y.zb fA U U (aH U) U U) (.mv ?_))
 refine .ai g6 U U U U U U (aH U) U ?_
 refine .an ?_
 exact .nil (.sh (Sh.eu 104 399 1 3 U U U U ae) (.ret (⟨_,U,_,_,_,Sh.kL (d:=0) 3 399 U U U U sm U ae,U,U,(⟨(jc:Int),0,-1,([]:List Int),0,(p.op:Int) % (n.streams.length:Int)⟩:Cell),_,HM hg om om,U,U⟩)))
 refine .skip (.le (aY:=⟨[(4,.ptr 104 0 0 0),(6,vi ((n.streams.getD (p.op % n.streams.length) default).width)),(7,.ptr 107 0 0 0)],[(104,.cells [vi 0,vi 0,vi 0,vn,.v (.int .u64 0),vi 0]),(107,.cells [vi jc,vi 0,vi (-1),vn,.v (.int .u64 0),vi ((p.op:Int) % (n.streams.length:Int))])]⟩) (Le.mk (.c2 (.c .nil)) (.c (.c .nil))) ?_)
 refine .sr (.vl (Y.zb fA U U (aH U) U U) (.mv ?_))
 refine .ai g6 U U U U U U (aH U) U ?_
 refine .an ?_
 exact .nil (.sh (Sh.eu 104 399 1 3 U U U U ae) (.ret (⟨_,U,_,_,_,Sh.kL (d:=0) 3 399 U U U U sm U ae,U,U,(⟨(jc:Int),0,-1,([]:List Int),0,(p.op:Int) % (n.streams.length:Int)⟩:Cell),_,HN hg om om (by grind),U,U⟩)))
open Go Go.AW Go.Proofs
theorem Dr{nm:ByteArray}{ws ins:List Int}{cs:List Cell}{aD:List eA}{streams:List bE}{f0 d0:Int}{p:sn}{i cl:Nat}(vx:cl = cs.length)(hn:ws.length <= 1048576)(hc:cs.length <= 1048576)(hp:p.Ok)(hi:i < cs.length)(ho:In (cs.getD ((((cs.length:Int) - 1) - (i:Int)).toNat) default).out ws.length \/ (cs.getD ((((cs.length:Int) - 1) - (i:Int)).toNat) default).kind ≠ 4):aw Try.prog 66 [.ptr 0 0 0 0,.agg (sn.row p),vi i] [.cells [.v (.string nm),.aL 1 1 0 ws.length,.aL 2 6 0 cl,.fz 1 (ins.map ah),.fz 5 (aD.map eA.row),.fz 3 (streams.map bE.row),vn,vn,vi f0,vi d0,vn],.rows 1 (ws.map ah),.rows 6 (cs.map Cell.row)] [0,1,2] (fun r o=>r = .tup [] /\ o = [.cells [.v (.string nm),.aL 1 1 0 ws.length,.aL 2 6 0 cl,.fz 1 (ins.map ah),.fz 5 (aD.map eA.row),.fz 3 (streams.map bE.row),vn,vn,vi f0,vi d0,vn],.rows 1 (ws.map ah),.rows 6 ((ti ws cs p i).map Cell.row)]):=by
 refine aw.of Try.func66 U U U (n:=62) ae (aH U) ?_
 subst vx
 have X9:=hp.a; have RP:=hp.d
 refine .sr (.box 104 U U U U U ae (.nil (.seq (.sh (Sh.eQ 104 U U) ?_))))
 refine .kM [0] [0,1,2,104] (⟨[(0,.ptr 0 0 0 0),(2,.v (.int .i64 (i:Int))),(4,.fp (sn.row p) 0),(6,.ptr 106 0 0 0)],[(0,.cells [.v (.string nm),.aL 1 1 0 ws.length,.aL 2 6 0 cs.length,.fz 1 (ins.map ah),.fz 5 (aD.map eA.row),.fz 3 (streams.map bE.row),vn,vn,.v (.int .i64 f0),.v (.int .i64 d0),vn]),(1,.rows 1 (ws.map ah)),(2,.rows 6 (cs.map Cell.row)),(106,.cells [.v (.int .i64 ((cs.getD ((((cs.length:Int) - 1) - (i:Int)).toNat) default).kind)),.v (.int .i64 ((cs.getD ((((cs.length:Int) - 1) - (i:Int)).toNat) default).op)),.v (.int .i64 ((cs.getD ((((cs.length:Int) - 1) - (i:Int)).toNat) default).out)),.fz 1 (((cs.getD ((((cs.length:Int) - 1) - (i:Int)).toNat) default).args).map ah),.v (.int .u64 (((cs.getD ((((cs.length:Int) - 1) - (i:Int)).toNat) default).num:Nat):Int)),.v (.int .i64 ((cs.getD ((((cs.length:Int) - 1) - (i:Int)).toNat) default).mem))])]⟩) U ?_ ?_
 refine .blind 0 U au (ax.move U U) ae (.blind 1 U au (ax.nilCheck U U) ae (.blind 2 U au (ax.fieldAddr bX U U) ae ?_))
 refine .load 3 U au gk U U U U U ae (.blind 4 U au (ax.move U U) ae (.blind 5 U au (ax.nilCheck U U) ae ?_))
 refine .blind 6 U au (ax.fieldAddr bX U U) ae (.load 7 U au gk U U U U U ae (.blind 8 U au (ax.len (n:=cs.length) dV U U) ae ?_))
 refine .blind 9 U au (ax.Pd U U om) ae (.blind 10 U au (ax.move U U) ae (.blind 11 U au (ax.Pd U U om) ae (.blind 12 U au (ax.wW (m:=(((cs.length:Int) - 1) - (i:Int)).toNat) dV U U om om) ae (.GZ U U (bZ.cells U U U bZ.nil) ?_))))
 refine .two 13 14 U U au ?_ ?_
 refine .vl (Y.zb fA U (aM (d:=default) aG) (aH U) U U) (.nil ⟨U,(.one 14 U au (.alloc 106 ez U U ae ?_))⟩)
 refine .nil ⟨U,(.one 15 U au (.ai g6 U U U U U U (aH U) U ?_))⟩
 exact .nil ⟨U,(.done au (Le.mk (.c2 (.c (.c .nil))) (.c2 (.c (.c .nil)))))⟩
 refine .alloc 106 ez U U ae ?_
 refine .nil ⟨U,(.one 13 U au (.vl (Y.zb fA U (aM (d:=default) aG) (aH U) U U) (.nil ⟨U,(.one 15 U au (.ai g6 U U U U U U (aH U) U ?_))⟩)))⟩
 exact .nil ⟨U,(.done au (Le.mk (.c2 (.c (.c .nil))) (.c2 (.c (.c .nil)))))⟩
 refine .le (aY:=⟨[(0,.ptr 0 0 0 0),(2,vi i),(4,.fp (sn.row p) 0),(6,.ptr 106 0 0 0)],[(0,.cells [.v (.string nm),.aL 1 1 0 ws.length,.aL 2 6 0 cs.length,.fz 1 (ins.map ah),.fz 5 (aD.map eA.row),.fz 3 (streams.map bE.row),vn,vn,vi f0,vi d0,vn]),(1,.rows 1 (ws.map ah)),(2,.rows 6 (cs.map Cell.row)),(106,.cells [vi ((cs.getD ((((cs.length:Int) - 1) - (i:Int)).toNat) default).kind),vi ((cs.getD ((((cs.length:Int) - 1) - (i:Int)).toNat) default).op),vi ((cs.getD ((((cs.length:Int) - 1) - (i:Int)).toNat) default).out),.fz 1 (((cs.getD ((((cs.length:Int) - 1) - (i:Int)).toNat) default).args).map ah),.v (.int .u64 (((cs.getD ((((cs.length:Int) - 1) - (i:Int)).toNat) default).num:Nat):Int)),vi ((cs.getD ((((cs.length:Int) - 1) - (i:Int)).toNat) default).mem)])]⟩) (Le.mk (.c2 (.c (.c .nil))) (.c2 (.c (.c .nil)))) (.sr ?_)
 refine .fa dC ?_
 refine .ld bj ?_
 refine .vl (Y.ql U U) (.nil ?_)
 refine .le (aY:=⟨[(0,.ptr 0 0 0 0),(2,vi i),(4,.fp (sn.row p) 0),(6,.ptr 106 0 0 0),(23,.v (.bool (decide (((cs.getD ((((cs.length:Int) - 1) - (i:Int)).toNat) default).kind) = 4))))],[(0,.cells [.v (.string nm),.aL 1 1 0 ws.length,.aL 2 6 0 cs.length,.fz 1 (ins.map ah),.fz 5 (aD.map eA.row),.fz 3 (streams.map bE.row),vn,vn,vi f0,vi d0,vn]),(1,.rows 1 (ws.map ah)),(2,.rows 6 (cs.map Cell.row)),(106,.cells [vi ((cs.getD ((((cs.length:Int) - 1) - (i:Int)).toNat) default).kind),vi ((cs.getD ((((cs.length:Int) - 1) - (i:Int)).toNat) default).op),vi ((cs.getD ((((cs.length:Int) - 1) - (i:Int)).toNat) default).out),.fz 1 (((cs.getD ((((cs.length:Int) - 1) - (i:Int)).toNat) default).args).map ah),.v (.int .u64 (((cs.getD ((((cs.length:Int) - 1) - (i:Int)).toNat) default).num:Nat):Int)),vi ((cs.getD ((((cs.length:Int) - 1) - (i:Int)).toNat) default).mem)])]⟩) (Le.mk (.c4 (.c .nil)) (.c2 (.c (.c .nil)))) ?_
 refine .aA U (fun y9=>?_) (fun y9=>?_)
 have oA:=ho.resolve_right (fun h=>h y9)
 unfold In at oA
 refine .seq ?_
 refine .kM [0] [0,1,2,106] (⟨[(0,.ptr 0 0 0 0),(2,.v (.int .i64 (i:Int))),(6,.ptr 106 0 0 0)],[(0,.cells [.v (.string nm),.aL 1 1 0 ws.length,.aL 2 6 0 cs.length,.fz 1 (ins.map ah),.fz 5 (aD.map eA.row),.fz 3 (streams.map bE.row),vn,vn,.v (.int .i64 f0),.v (.int .i64 d0),vn]),(1,.rows 1 (ws.map ah)),(2,.rows 6 (cs.map Cell.row)),(106,.cells [.v (.int .i64 ((cs.getD ((((cs.length:Int) - 1) - (i:Int)).toNat) default).kind)),.v (.int .i64 ((cs.getD ((((cs.length:Int) - 1) - (i:Int)).toNat) default).op)),.v (.int .i64 ((cs.getD ((((cs.length:Int) - 1) - (i:Int)).toNat) default).out)),.fz 1 (([aB ws 1 p.a,aB ws (ws.getD (((cs.getD ((((cs.length:Int) - 1) - (i:Int)).toNat) default).out).toNat) 0) p.d]:List Int).map ah),.v (.int .u64 (((cs.getD ((((cs.length:Int) - 1) - (i:Int)).toNat) default).num:Nat):Int)),.v (.int .i64 ((cs.getD ((((cs.length:Int) - 1) - (i:Int)).toNat) default).mem))])]⟩) U ?_ ?_
 refine .blind 0 U au (ax.move U U) ae (.blind 1 U au (ax.nilCheck U U) ae (.fe 2 U au gm U U U (aH U) U U ae ?_))
 refine .blind 3 U au (ax.fieldAddr jI U U) ae (.blind 4 U au (ax.lV oY U U (m:=0) U om U) ae (.load 5 U au tl U U U U U ae ?_))
 refine .blind 7 U au (ax.move U U) ae (.blind 8 U au (ax.nilCheck U U) ae (.fe 9 U au gm U U U (aH U) U U ae ?_))
 refine .blind 10 U au (ax.move U U) ae (.blind 11 U au (ax.nilCheck U U) ae (.blind 12 U au (ax.fieldAddr bO U U) ae ?_))
 refine .load 13 U au bt U U U U U ae (.blind 14 U au (ax.fieldAddr eo U U) ae (.blind 18 U au (ax.fieldAddr jI U U) ae ?_))
 refine .blind 19 U au (ax.lV oY U U (m:=2) U om U) ae (.load 20 U au tl U U U U U ae (.GZ U U (bZ.cells U U U bZ.nil) ?_))
 refine .two 6 15 U U au ?_ ?_
 refine .jF [1,2] jm (cu (n:=(⟨nm,ws,cs,ins,aD,streams,[],[],f0,d0,[]⟩:ab)) (w:=1) (k:=p.a) (by show (ws).length <= 1048576; omega) om) U (.agg (.aj U U (.cB U U (b7 om) (b8 om) (.cB U U (b7 om) (b8 om) (.aj U U (.aj U U (.aj U U (.aj U U (.aj U U (.aj U U (.aj U U (.aj U U .nil))))))))))) U (.aj U U (.aj U U .nil))) (eX U (bq aI) (kH U (bq Cell.bA))) ae U trivial ?_
 refine .nil ⟨U,(.one 15 U au (.ld bj ?_))⟩
 refine .nil ⟨U,(.one 16 U au (.vl (Y.qt (m:=((cs.getD ((((cs.length:Int) - 1) - (i:Int)).toNat) default).out).toNat) a7 U U om om) (.nil ⟨U,(.one 17 U au (.vl (Y.za bj U (aM (d:=0) om) U U) (.nil ⟨U,?_⟩)))⟩)))⟩
 refine .one 21 U au (.jF [1,2] jm (cu (n:=(⟨nm,ws,cs,ins,aD,streams,[],[],f0,d0,[]⟩:ab)) (w:=(ws.getD (((cs.getD ((((cs.length:Int) - 1) - (i:Int)).toNat) default).out).toNat) 0)) (k:=p.d) (by show (ws).length <= 1048576; omega) om) U (.agg (.aj U U (.cB U U (b7 om) (b8 om) (.cB U U (b7 om) (b8 om) (.aj U U (.aj U U (.aj U U (.aj U U (.aj U U (.aj U U (.aj U U (.aj U U .nil))))))))))) U (.aj U U (.aj U U .nil))) (eX U (bq aI) (kH U (bq Cell.bA))) ae U trivial ?_)
 refine .nil ⟨U,(.one 22 U au (.buildSlice (([aB ws 1 p.a,aB ws (ws.getD (((cs.getD ((((cs.length:Int) - 1) - (i:Int)).toNat) default).out).toNat) 0) p.d]:List Int).map ah) a7 dD U U U U U (aq (s:=1) (f:=ah) (fun _=>U)) U U U ae ?_))⟩
 refine .nil ⟨U,(.one 23 U au (.fa bU ?_))⟩
 refine .nil ⟨U,(.one 24 U au (.sh (Sh.cG (d:=46) (([aB ws 1 p.a,aB ws (ws.getD (((cs.getD ((((cs.length:Int) - 1) - (i:Int)).toNat) default).out).toNat) 0) p.d]:List Int).map ah) U iJ (cC.map aI)) (.ai fJ U U U U U U (aH U) U ?_)))⟩
 exact .nil ⟨U,(.done au (Le.mk (.c2 (.c .nil)) (.c2 (.c (.c .nil)))))⟩
 refine .ld bj ?_
 refine .nil ⟨U,(.blind 16 U au (ax.wW (m:=((cs.getD ((((cs.length:Int) - 1) - (i:Int)).toNat) default).out).toNat) a7 U U om om) ae ?_)⟩
 refine .two 6 17 U U au ?_ ?_
 refine .jF [1,2] jm (cu (n:=(⟨nm,ws,cs,ins,aD,streams,[],[],f0,d0,[]⟩:ab)) (w:=1) (k:=p.a) (by show (ws).length <= 1048576; omega) om) U (.agg (.aj U U (.cB U U (b7 om) (b8 om) (.cB U U (b7 om) (b8 om) (.aj U U (.aj U U (.aj U U (.aj U U (.aj U U (.aj U U (.aj U U (.aj U U .nil))))))))))) U (.aj U U (.aj U U .nil))) (eX U (bq aI) (kH U (bq Cell.bA))) ae U trivial ?_
 refine .nil ⟨U,(.one 17 U au (.vl (Y.za bj U (aM (d:=0) om) U U) (.nil ⟨U,(.one 21 U au (.jF [1,2] jm (cu (n:=(⟨nm,ws,cs,ins,aD,streams,[],[],f0,d0,[]⟩:ab)) (w:=(ws.getD (((cs.getD ((((cs.length:Int) - 1) - (i:Int)).toNat) default).out).toNat) 0)) (k:=p.d) (by show (ws).length <= 1048576; omega) om) U (.agg (.aj U U (.cB U U (b7 om) (b8 om) (.cB U U (b7 om) (b8 om) (.aj U U (.aj U U (.aj U U (.aj U U (.aj U U (.aj U U (.aj U U (.aj U U .nil))))))))))) U (.aj U U (.aj U U .nil))) (eX U (bq aI) (kH U (bq Cell.bA))) ae U trivial ?_))⟩)))⟩
 refine .nil ⟨U,(.one 22 U au (.buildSlice (([aB ws 1 p.a,aB ws (ws.getD (((cs.getD ((((cs.length:Int) - 1) - (i:Int)).toNat) default).out).toNat) 0) p.d]:List Int).map ah) a7 dD U U U U U (aq (s:=1) (f:=ah) (fun _=>U)) U U U ae ?_))⟩
 refine .nil ⟨U,(.one 23 U au (.fa bU ?_))⟩
 refine .nil ⟨U,(.one 24 U au (.sh (Sh.cG (d:=46) (([aB ws 1 p.a,aB ws (ws.getD (((cs.getD ((((cs.length:Int) - 1) - (i:Int)).toNat) default).out).toNat) 0) p.d]:List Int).map ah) U iJ (cC.map aI)) (.ai fJ U U U U U U (aH U) U ?_)))⟩
 exact .nil ⟨U,(.done au (Le.mk (.c2 (.c .nil)) (.c2 (.c (.c .nil)))))⟩
 refine .vl (Y.za bj U (aM (d:=0) om) U U) (.nil ⟨U,(.one 6 U au (.jF [1,2] jm (cu (n:=(⟨nm,ws,cs,ins,aD,streams,[],[],f0,d0,[]⟩:ab)) (w:=1) (k:=p.a) (by show (ws).length <= 1048576; omega) om) U (.agg (.aj U U (.cB U U (b7 om) (b8 om) (.cB U U (b7 om) (b8 om) (.aj U U (.aj U U (.aj U U (.aj U U (.aj U U (.aj U U (.aj U U (.aj U U .nil))))))))))) U (.aj U U (.aj U U .nil))) (eX U (bq aI) (kH U (bq Cell.bA))) ae U trivial ?_))⟩)
 refine .nil ⟨U,(.one 21 U au (.jF [1,2] jm (cu (n:=(⟨nm,ws,cs,ins,aD,streams,[],[],f0,d0,[]⟩:ab)) (w:=(ws.getD (((cs.getD ((((cs.length:Int) - 1) - (i:Int)).toNat) default).out).toNat) 0)) (k:=p.d) (by show (ws).length <= 1048576; omega) om) U (.agg (.aj U U (.cB U U (b7 om) (b8 om) (.cB U U (b7 om) (b8 om) (.aj U U (.aj U U (.aj U U (.aj U U (.aj U U (.aj U U (.aj U U (.aj U U .nil))))))))))) U (.aj U U (.aj U U .nil))) (eX U (bq aI) (kH U (bq Cell.bA))) ae U trivial ?_))⟩
 refine .nil ⟨U,(.one 22 U au (.buildSlice (([aB ws 1 p.a,aB ws (ws.getD (((cs.getD ((((cs.length:Int) - 1) - (i:Int)).toNat) default).out).toNat) 0) p.d]:List Int).map ah) a7 dD U U U U U (aq (s:=1) (f:=ah) (fun _=>U)) U U U ae ?_))⟩
 refine .nil ⟨U,(.one 23 U au (.fa bU ?_))⟩
 refine .nil ⟨U,(.one 24 U au (.sh (Sh.cG (d:=46) (([aB ws 1 p.a,aB ws (ws.getD (((cs.getD ((((cs.length:Int) - 1) - (i:Int)).toNat) default).out).toNat) 0) p.d]:List Int).map ah) U iJ (cC.map aI)) (.ai fJ U U U U U U (aH U) U ?_)))⟩
 exact .nil ⟨U,(.done au (Le.mk (.c2 (.c .nil)) (.c2 (.c (.c .nil)))))⟩
 refine .le (aY:=⟨[(0,.ptr 0 0 0 0),(2,vi i),(6,.ptr 106 0 0 0)],[(0,.cells [.v (.string nm),.aL 1 1 0 ws.length,.aL 2 6 0 cs.length,.fz 1 (ins.map ah),.fz 5 (aD.map eA.row),.fz 3 (streams.map bE.row),vn,vn,vi f0,vi d0,vn]),(1,.rows 1 (ws.map ah)),(2,.rows 6 (cs.map Cell.row)),(106,.cells [vi ((cs.getD ((((cs.length:Int) - 1) - (i:Int)).toNat) default).kind),vi ((cs.getD ((((cs.length:Int) - 1) - (i:Int)).toNat) default).op),vi ((cs.getD ((((cs.length:Int) - 1) - (i:Int)).toNat) default).out),.fz 1 (([aB ws 1 p.a,aB ws (ws.getD (((cs.getD ((((cs.length:Int) - 1) - (i:Int)).toNat) default).out).toNat) 0) p.d]:List Int).map ah),.v (.int .u64 (((cs.getD ((((cs.length:Int) - 1) - (i:Int)).toNat) default).num:Nat):Int)),vi ((cs.getD ((((cs.length:Int) - 1) - (i:Int)).toNat) default).mem)])]⟩) (Le.mk (.c2 (.c .nil)) (.c2 (.c (.c .nil)))) ?_
 refine .mA 14 U au (.val (Y.zh U U) ae (.val (Y.zm U U) ae (.val (Y.qp bX U U) ae (.val (Y.za gk U U U U) ae (.val (Y.zh U U) ae (.val (Y.zm U U) ae (.val (Y.qp bX U U) ae (.val (Y.za gk U U U U) ae ?_))))))))
 refine .val (Y.qx (n:=cs.length) dV U U) ae (.val (Y.wc U U om) ae (.val (Y.zh U U) ae (.val (Y.wc U U om) ae (.val (Y.zb fA U U (aH U) U U) ae (.val (Y.qt (m:=(((cs.length:Int) - 1) - (i:Int)).toNat) dV U U om om) ae (.nil (.gU ((cs.set ((((cs.length:Int) - 1) - (i:Int)).toNat) (⟨(cs.getD ((((cs.length:Int) - 1) - (i:Int)).toNat) default).kind,(cs.getD ((((cs.length:Int) - 1) - (i:Int)).toNat) default).op,(cs.getD ((((cs.length:Int) - 1) - (i:Int)).toNat) default).out,([aB ws 1 p.a,aB ws (ws.getD (((cs.getD ((((cs.length:Int) - 1) - (i:Int)).toNat) default).out).toNat) 0) p.d]:List Int),(cs.getD ((((cs.length:Int) - 1) - (i:Int)).toNat) default).num,(cs.getD ((((cs.length:Int) - 1) - (i:Int)).toNat) default).mem⟩:Cell)).map Cell.row) g6 U U U U U U U (aM (d:=default) om) (aH U) (e9 U) (.nil ⟨_,_,U,U,U,(by unfold ti; rw [if_pos y9])⟩))))))))
 refine .skip ⟨_,_,U,U,U,(by unfold ti; rw [if_neg y9])⟩
open Go Go.AW Go.Proofs
theorem Ds{p:nL}(hf:p.Rm)(hk:p.Ok):aw Try.prog 22 [.agg (nL.row p)] [] [] (fun r o=>∃ n,J1 n /\ r = .agg (ab.iK n) /\ o = []):=by
 refine aw.Rq Try.func22 U U U (n:=252) ae (aH U) ?_
 have WN:=hf.aD; have RD:=hf.streams; have PA:=hf.ins; have YB:=hf.parts; have hf5:=hf.cM; have V7:=hk.parts
 refine .sr (.box 101 U U U U U ae (.alloc 102 HZ U U ae ?_))
 refine .nil (.sr (.vl (Y.qh SW HZ U U U) (.alloc 103 HZ U U ae (.ai KW U U U U U U (aH U) U (.nil (.seq (.seq (.sh (Sh.eQ 101 U U) (.sh (Sh.eu 103 401 1 1 U U U U ae) (.sh (Sh.eu 103 402 6 2 U U U U ae) (.sh (Sh.eu 103 403 1 3 U U U U ae) (.sh (Sh.eu 103 404 5 4 U U U U ae) (.sh (Sh.eu 103 405 3 5 U U U U ae) (.region (.an (.nil (.block ?_)))))))))))))))))
 refine .eh (fun (dO:Nat) (ee:List Int) (eE:List Cell)=>⟨[(1,.fp (nL.row p) 0),(2,.ptr 102 0 0 0),(3,.ptr 103 0 0 0),(4,vi dO)],[(102,.cells [.v (.string ByteArray.empty),vn,vn,vn,vn,vn,vn,vn,vi 0,vi 0,vn]),(103,.cells [.v (.string nB),.aL 401 1 0 ee.length,.aL 402 6 0 eE.length,.aL 403 1 0 0,.aL 404 5 0 0,.aL 405 3 0 0,vn,vn,vi 0,vi 0,vn]),(401,.rows 1 (ee.map ah)),(402,.rows 6 (eE.map Cell.row)),(403,.rows 1 (([]:List Int).map ah)),(404,.rows 5 (([]:List eA).map eA.row)),(405,.rows 3 (([]:List bE).map bE.row))]⟩) (fun dO ee eE=>((dO:Int) <= 8) /\ (ee = z3 dO) /\ (eE = DD dO) /\ (ee.length = dO) /\ (eE.length = dO)) (fun dO ee eE=>(8 - (dO:Int)).toNat) 0 ([]:List Int) ([]:List Cell) (⟨om,U,U,U,U⟩) (Le.mk (.c2 (.c (.cons (ak U bc) .nil))) (.c (.cons (ay U eR) (.c4 (.c .nil))))) (fun dO ee eE qR=>?_)
 obtain ⟨Fc,Rv,JK,V9,VA⟩:=qR
 refine .seq (.sr (.mv ?_))
 refine .vl (Y.zc U U) (.nil (.aA U (fun y6=>?_) (fun y6=>?_)))
 refine .skip (.seq (.block (.seq (.dW (⟨[(1,.fp (nL.row p) 0),(2,.ptr 102 0 0 0),(3,.ptr 103 0 0 0),(4,.v (.int .i64 (dO:Int)))],[(102,.cells [.v (.string ByteArray.empty),vn,vn,vn,vn,vn,vn,vn,.v (.int .i64 0),.v (.int .i64 0),vn]),(103,.cells [.v (.string nB),.aL 401 1 0 ((ee ++ ([az dO]:List Int)).length),.aL 402 6 0 eE.length,.aL 403 1 0 0,.aL 404 5 0 0,.aL 405 3 0 0,vn,vn,.v (.int .i64 0),.v (.int .i64 0),vn]),(401,.rows 1 ((ee ++ ([az dO]:List Int)).map ah)),(402,.rows 6 (eE.map Cell.row)),(403,.rows 1 (([]:List Int).map ah)),(404,.rows 5 (([]:List eA).map eA.row)),(405,.rows 3 (([]:List bE).map bE.row))]⟩) U ?_ ?_))))
 refine .blind 0 U au (ax.fieldAddr bO U U) ae (.blind 2 U au (ax.move U U) ae ?_)
 refine .blind 3 U au (ax.wo sD wT U (by first | rfl | exact IntWalk.u8_in _ om)) ae (.yj ?_)
 refine .two 1 4 U U au ?_ ?_
 refine .ld bt ?_
 refine .nil ⟨U,(.one 4 U au (.aZ vC (fP (k:=dO)) U (.aj U U .nil) ae U ?_))⟩
 refine .nil ⟨U,(.one 5 U au (.buildSlice (([az dO]:List Int).map ah) a7 dD U U U U U (aq (s:=1) (f:=ah) (fun _=>U)) U U U ae ?_))⟩
 refine .nil ⟨U,(.one 6 U au (.cL ah (ee ++ ([az dO]:List Int)) a7 dD U U U U (bg bJ) (aR bJ) (bz bJ) bJ bJ ae ae ?_))⟩
 refine .nil ⟨U,(.one 7 U au (.fa bO ?_))⟩
 refine .nil ⟨U,(.one 8 U au (.ai fJ U U U U U U (aH U) U ?_))⟩
 exact .nil ⟨U,(.done au (Le.mk (.c2 (.c (.c .nil))) (.c4 (.c2 (.c .nil)))))⟩
 refine .aZ vC (fP (k:=dO)) U (.aj U U .nil) ae U ?_
 refine .nil ⟨U,(.two 1 5 U U au ?_ ?_)⟩
 refine .ld bt ?_
 refine .nil ⟨U,(.one 5 U au (.buildSlice (([az dO]:List Int).map ah) a7 dD U U U U U (aq (s:=1) (f:=ah) (fun _=>U)) U U U ae ?_))⟩
 refine .nil ⟨U,(.one 6 U au (.cL ah (ee ++ ([az dO]:List Int)) a7 dD U U U U (bg bJ) (aR bJ) (bz bJ) bJ bJ ae ae ?_))⟩
 refine .nil ⟨U,(.one 7 U au (.fa bO ?_))⟩
 refine .nil ⟨U,(.one 8 U au (.ai fJ U U U U U U (aH U) U ?_))⟩
 exact .nil ⟨U,(.done au (Le.mk (.c2 (.c (.c .nil))) (.c4 (.c2 (.c .nil)))))⟩
 refine .buildSlice (([az dO]:List Int).map ah) a7 dD U U U U U (aq (s:=1) (f:=ah) (fun _=>U)) U U U ae ?_
 refine .nil ⟨U,(.one 1 U au (.ld bt ?_))⟩
 refine .nil ⟨U,(.one 6 U au (.cL ah (ee ++ ([az dO]:List Int)) a7 dD U U U U (bg bJ) (aR bJ) (bz bJ) bJ bJ ae ae ?_))⟩
 refine .nil ⟨U,(.one 7 U au (.fa bO ?_))⟩
 refine .nil ⟨U,(.one 8 U au (.ai fJ U U U U U U (aH U) U ?_))⟩
 exact .nil ⟨U,(.done au (Le.mk (.c2 (.c (.c .nil))) (.c4 (.c2 (.c .nil)))))⟩
 refine .le (aY:=⟨[(1,.fp (nL.row p) 0),(2,.ptr 102 0 0 0),(3,.ptr 103 0 0 0),(4,vi dO)],[(102,.cells [.v (.string ByteArray.empty),vn,vn,vn,vn,vn,vn,vn,vi 0,vi 0,vn]),(103,.cells [.v (.string nB),.aL 401 1 0 ((ee ++ ([az dO]:List Int)).length),.aL 402 6 0 eE.length,.aL 403 1 0 0,.aL 404 5 0 0,.aL 405 3 0 0,vn,vn,vi 0,vi 0,vn]),(401,.rows 1 ((ee ++ ([az dO]:List Int)).map ah)),(402,.rows 6 (eE.map Cell.row)),(403,.rows 1 (([]:List Int).map ah)),(404,.rows 5 (([]:List eA).map eA.row)),(405,.rows 3 (([]:List bE).map bE.row))]⟩) (Le.mk (.c2 (.c (.c .nil))) (.c4 (.c2 (.c .nil)))) (.region (.fa bX ?_))
 refine .ld gk ?_
 refine .mv ?_
 refine .mv ?_
 refine .vl (Y.zt U U om) (.vl (Y.qk sD yb U (by first | rfl | exact IntWalk.u64_in _ om)) (.vl (Y.qh vB ez U U U) (.sh (Sh.Ev (d:=33) 1 3 U U) (.buildSlice (([(⟨1,0,(dO:Int),([]:List Int),dO % 2,0⟩:Cell)]:List Cell).map Cell.row) dV ez U U U U U (aq (s:=6) (f:=Cell.row) (fun _=>U)) U U U ae ?_))))
 refine .cL Cell.row (eE ++ ([(⟨1,0,(dO:Int),([]:List Int),dO % 2,0⟩:Cell)]:List Cell)) dV ez U U U U (bg bJ) (aR bJ) (bz bJ) bJ bJ ae ae ?_
 refine .fa bX ?_
 refine .ai tJ U U U U U U (aH U) U (.nil (.region (.mv ?_)))
 refine .vl (Y.qb U U om) (.an ?_)
 refine .nil (⟨dO + 1,ee ++ ([az dO]:List Int),eE ++ ([(⟨1,0,(dO:Int),([]:List Int),dO % 2,0⟩:Cell)]:List Cell),⟨om,by rw [Rv]; exact (EF _).symm,by rw [JK]; exact (EG _).symm,by rw [List.length_append,V9]; rfl,by rw [List.length_append,VA]; rfl⟩,om,Le.mk (.c2 (.c (.cons (ak U bc) .nil))) (.c (.cons (ay U eR) (.c4 (.c .nil))))⟩)
 refine .exit (.seq (.sr (.an (.nil (.block ?_)))))
 refine .iD (fun (gS:Nat) (bS:List eA)=>⟨[(1,.fp (nL.row p) 0),(2,.ptr 102 0 0 0),(3,.ptr 103 0 0 0),(5,vi gS)],[(102,.cells [.v (.string ByteArray.empty),vn,vn,vn,vn,vn,vn,vn,vi 0,vi 0,vn]),(103,.cells [.v (.string nB),.aL 401 1 0 ee.length,.aL 402 6 0 eE.length,.aL 403 1 0 0,.aL 404 5 0 bS.length,.aL 405 3 0 0,vn,vn,vi 0,vi 0,vn]),(401,.rows 1 (ee.map ah)),(402,.rows 6 (eE.map Cell.row)),(403,.rows 1 (([]:List Int).map ah)),(404,.rows 5 (bS.map eA.row)),(405,.rows 3 (([]:List bE).map bE.row))]⟩) (fun gS bS=>((gS:Int) <= (p.aD.length:Int)) /\ (∀ m ∈ bS,nv m /\ ∃ k,m.width = az k) /\ (bS.length = gS)) (fun gS bS=>((p.aD.length:Int) - (gS:Int)).toNat) 0 ([]:List eA) (⟨om,fun m h=>(by cases h),U⟩) (Le.mk (.c2 (.c (.cons (ak U bc) .nil))) (.c (.cons (ay U eR) (.c4 (.c .nil))))) (fun gS bS ZP=>?_)
 obtain ⟨hb8,hm,JO⟩:=ZP
 refine .seq (.sr (.mv ?_))
 refine .fa wU ?_
 refine .ld yd ?_
 refine .vl (Y.qx (n:=p.aD.length) ye U fV) (.vl (Y.zc U U) (.nil (.aA U (fun Az=>?_) (fun Az=>?_))))
 refine .skip (.seq (.block ?_))
 have VB:=hk.aD (p.aD.getD gS default) (getD_in om)
 refine .dW (⟨[(1,.fp (nL.row p) 0),(2,.ptr 102 0 0 0),(3,.ptr 103 0 0 0),(5,.v (.int .i64 (gS:Int)))],[(102,.cells [.v (.string ByteArray.empty),vn,vn,vn,vn,vn,vn,vn,.v (.int .i64 0),.v (.int .i64 0),vn]),(103,.cells [.v (.string nB),.aL 401 1 0 ee.length,.aL 402 6 0 eE.length,.aL 403 1 0 0,.aL 404 5 0 ((bS ++ ([(⟨mB,az ((p.aD.getD gS default).a),1 + ((((p.aD.getD gS default).b:Nat):Int) % 9),0,0⟩:eA)]:List eA)).length),.aL 405 3 0 0,vn,vn,.v (.int .i64 0),.v (.int .i64 0),vn]),(401,.rows 1 (ee.map ah)),(402,.rows 6 (eE.map Cell.row)),(403,.rows 1 (([]:List Int).map ah)),(404,.rows 5 ((bS ++ ([(⟨mB,az ((p.aD.getD gS default).a),1 + ((((p.aD.getD gS default).b:Nat):Int) % 9),0,0⟩:eA)]:List eA)).map eA.row)),(405,.rows 3 (([]:List bE).map bE.row))]⟩) U ?_ ?_
 refine .blind 0 U au (ax.fieldAddr gZ U U) ae (.blind 2 U au (ax.fieldAddr wU U U) ae (.load 3 U au yd U U U U U ae ?_))
 refine .blind 4 U au (ax.move U U) ae (.blind 5 U au (ax.kj (m:=gS) ye U U bc (ao (d:=default) om)) ae ?_)
 refine .blind 6 U au (ax.lV HU U U (m:=0) U om U) ae (.load 7 U au tl U U U U U ae (.blind 9 U au (ax.fieldAddr wU U U) ae ?_))
 refine .load 10 U au yd U U U U U ae (.blind 11 U au (ax.move U U) ae ?_)
 refine .blind 12 U au (ax.kj (m:=gS) ye U U bc (ao (d:=default) om)) ae ?_
 refine .blind 13 U au (ax.lV HU U U (m:=1) U om U) ae (.load 14 U au tl U U U U U ae ?_)
 refine .blind 15 U au (ax.EZ U U om) ae (.blind 16 U au (ax.wo wT sD U zT) ae (.blind 17 U au (ax.KY U U om) ae (.yj ?_)))
 refine .two 1 8 U U au ?_ ?_
 refine .ld pW ?_
 refine .nil ⟨U,(.one 8 U au (.aZ vC (fP (k:=((p.aD.getD gS default).a))) U (.aj U U .nil) ae U ?_))⟩
 refine .nil ⟨U,(.one 18 U au (.vl (Y.qh EP o4 U U U) (.nil ⟨U,(.one 19 U au (.buildSlice (([(⟨mB,az ((p.aD.getD gS default).a),1 + ((((p.aD.getD gS default).b:Nat):Int) % 9),0,0⟩:eA)]:List eA).map eA.row) mV o4 U U U U U (aq (s:=5) (f:=eA.row) (fun _=>U)) U U U ae ?_))⟩)))⟩
 refine .nil ⟨U,(.one 20 U au (.cL eA.row (bS ++ ([(⟨mB,az ((p.aD.getD gS default).a),1 + ((((p.aD.getD gS default).b:Nat):Int) % 9),0,0⟩:eA)]:List eA)) mV o4 U U U U (bg bJ) (aR bJ) (bz bJ) bJ bJ ae ae ?_))⟩
 refine .nil ⟨U,(.one 21 U au (.fa gZ ?_))⟩
 refine .nil ⟨U,(.one 22 U au (.ai HW U U U U U U (aH U) U ?_))⟩
 exact .nil ⟨U,(.done au (Le.mk (.c2 (.c (.c .nil))) (.c4 (.c2 (.c .nil)))))⟩
 refine .aZ vC (fP (k:=((p.aD.getD gS default).a))) U (.aj U U .nil) ae U ?_
 refine .nil ⟨U,(.two 1 18 U U au ?_ ?_)⟩
 refine .ld pW ?_
 refine .nil ⟨U,(.one 18 U au (.vl (Y.qh EP o4 U U U) (.nil ⟨U,(.one 19 U au (.buildSlice (([(⟨mB,az ((p.aD.getD gS default).a),1 + ((((p.aD.getD gS default).b:Nat):Int) % 9),0,0⟩:eA)]:List eA).map eA.row) mV o4 U U U U U (aq (s:=5) (f:=eA.row) (fun _=>U)) U U U ae ?_))⟩)))⟩
 refine .nil ⟨U,(.one 20 U au (.cL eA.row (bS ++ ([(⟨mB,az ((p.aD.getD gS default).a),1 + ((((p.aD.getD gS default).b:Nat):Int) % 9),0,0⟩:eA)]:List eA)) mV o4 U U U U (bg bJ) (aR bJ) (bz bJ) bJ bJ ae ae ?_))⟩
 refine .nil ⟨U,(.one 21 U au (.fa gZ ?_))⟩
 refine .nil ⟨U,(.one 22 U au (.ai HW U U U U U U (aH U) U ?_))⟩
 exact .nil ⟨U,(.done au (Le.mk (.c2 (.c (.c .nil))) (.c4 (.c2 (.c .nil)))))⟩
 refine .vl (Y.qh EP o4 U U U) (.nil ⟨U,(.two 1 19 U U au ?_ ?_)⟩)
 refine .ld pW ?_
 refine .nil ⟨U,(.one 19 U au (.buildSlice (([(⟨mB,az ((p.aD.getD gS default).a),1 + ((((p.aD.getD gS default).b:Nat):Int) % 9),0,0⟩:eA)]:List eA).map eA.row) mV o4 U U U U U (aq (s:=5) (f:=eA.row) (fun _=>U)) U U U ae ?_))⟩
 refine .nil ⟨U,(.one 20 U au (.cL eA.row (bS ++ ([(⟨mB,az ((p.aD.getD gS default).a),1 + ((((p.aD.getD gS default).b:Nat):Int) % 9),0,0⟩:eA)]:List eA)) mV o4 U U U U (bg bJ) (aR bJ) (bz bJ) bJ bJ ae ae ?_))⟩
 refine .nil ⟨U,(.one 21 U au (.fa gZ ?_))⟩
 refine .nil ⟨U,(.one 22 U au (.ai HW U U U U U U (aH U) U ?_))⟩
 exact .nil ⟨U,(.done au (Le.mk (.c2 (.c (.c .nil))) (.c4 (.c2 (.c .nil)))))⟩
 refine .buildSlice (([(⟨mB,az ((p.aD.getD gS default).a),1 + ((((p.aD.getD gS default).b:Nat):Int) % 9),0,0⟩:eA)]:List eA).map eA.row) mV o4 U U U U U (aq (s:=5) (f:=eA.row) (fun _=>U)) U U U ae ?_
 refine .nil ⟨U,(.one 1 U au (.ld pW ?_))⟩
 refine .nil ⟨U,(.one 20 U au (.cL eA.row (bS ++ ([(⟨mB,az ((p.aD.getD gS default).a),1 + ((((p.aD.getD gS default).b:Nat):Int) % 9),0,0⟩:eA)]:List eA)) mV o4 U U U U (bg bJ) (aR bJ) (bz bJ) bJ bJ ae ae ?_))⟩
 refine .nil ⟨U,(.one 21 U au (.fa gZ ?_))⟩
 refine .nil ⟨U,(.one 22 U au (.ai HW U U U U U U (aH U) U ?_))⟩
 exact .nil ⟨U,(.done au (Le.mk (.c2 (.c (.c .nil))) (.c4 (.c2 (.c .nil)))))⟩
 refine .region (.mv ?_)
 refine .vl (Y.qb U U om) (.an ?_)
 refine .nil (⟨gS + 1,bS ++ ([(⟨mB,az ((p.aD.getD gS default).a),1 + ((((p.aD.getD gS default).b:Nat):Int) % 9),0,0⟩:eA)]:List eA),⟨om,tX hm (Ad om),by rw [List.length_append,JO]; rfl⟩,om,Le.mk (.c2 (.c (.cons (ak U bc) .nil))) (.c (.cons (ay U eR) (.c4 (.c .nil))))⟩)
 refine .exit (.seq (.sr (.an (.nil (.block ?_)))))
 refine .iD (fun (et:Nat) (br:List bE)=>⟨[(1,.fp (nL.row p) 0),(2,.ptr 102 0 0 0),(3,.ptr 103 0 0 0),(6,vi et)],[(102,.cells [.v (.string ByteArray.empty),vn,vn,vn,vn,vn,vn,vn,vi 0,vi 0,vn]),(103,.cells [.v (.string nB),.aL 401 1 0 ee.length,.aL 402 6 0 eE.length,.aL 403 1 0 0,.aL 404 5 0 bS.length,.aL 405 3 0 br.length,vn,vn,vi 0,vi 0,vn]),(401,.rows 1 (ee.map ah)),(402,.rows 6 (eE.map Cell.row)),(403,.rows 1 (([]:List Int).map ah)),(404,.rows 5 (bS.map eA.row)),(405,.rows 3 (br.map bE.row))]⟩) (fun et br=>((et:Int) <= (p.streams.length:Int)) /\ (∀ m ∈ br,o3 m.name /\ ∃ k,m.width = az k) /\ (br.length = et)) (fun et br=>((p.streams.length:Int) - (et:Int)).toNat) 0 ([]:List bE) (⟨om,fun m h=>(by cases h),U⟩) (Le.mk (.c2 (.c (.cons (ak U bc) .nil))) (.c (.cons (ay U eR) (.c4 (.c .nil))))) (fun et br VC=>?_)
 obtain ⟨ZQ,hs,M0⟩:=VC
 refine .seq (.sr (.mv ?_))
 refine .fa wV ?_
 refine .ld yd ?_
 refine .vl (Y.qx (n:=p.streams.length) ye U fV) (.vl (Y.zc U U) (.nil (.aA U (fun yO=>?_) (fun yO=>?_))))
 refine .skip (.seq (.block ?_))
 have VB:=hk.streams (p.streams.getD et default) (getD_in om)
 refine .dW (⟨[(1,.fp (nL.row p) 0),(2,.ptr 102 0 0 0),(3,.ptr 103 0 0 0),(6,.v (.int .i64 (et:Int)))],[(102,.cells [.v (.string ByteArray.empty),vn,vn,vn,vn,vn,vn,vn,.v (.int .i64 0),.v (.int .i64 0),vn]),(103,.cells [.v (.string nB),.aL 401 1 0 ee.length,.aL 402 6 0 eE.length,.aL 403 1 0 0,.aL 404 5 0 bS.length,.aL 405 3 0 ((br ++ ([(⟨sB,az ((p.streams.getD et default).a),decide (((((p.streams.getD et default).b:Nat):Int) % 2) = 1)⟩:bE)]:List bE)).length),vn,vn,.v (.int .i64 0),.v (.int .i64 0),vn]),(401,.rows 1 (ee.map ah)),(402,.rows 6 (eE.map Cell.row)),(403,.rows 1 (([]:List Int).map ah)),(404,.rows 5 (bS.map eA.row)),(405,.rows 3 ((br ++ ([(⟨sB,az ((p.streams.getD et default).a),decide (((((p.streams.getD et default).b:Nat):Int) % 2) = 1)⟩:bE)]:List bE)).map bE.row))]⟩) U ?_ ?_
 refine .blind 0 U au (ax.fieldAddr eS U U) ae (.blind 2 U au (ax.fieldAddr wV U U) ae (.load 3 U au yd U U U U U ae ?_))
 refine .blind 4 U au (ax.move U U) ae (.blind 5 U au (ax.kj (m:=et) ye U U bc (ao (d:=default) om)) ae ?_)
 refine .blind 6 U au (ax.lV HU U U (m:=0) U om U) ae (.load 7 U au tl U U U U U ae (.blind 9 U au (ax.fieldAddr wV U U) ae ?_))
 refine .load 10 U au yd U U U U U ae (.blind 11 U au (ax.move U U) ae ?_)
 refine .blind 12 U au (ax.kj (m:=et) ye U U bc (ao (d:=default) om)) ae ?_
 refine .blind 13 U au (ax.lV HU U U (m:=1) U om U) ae (.load 14 U au tl U U U U U ae ?_)
 refine .blind 15 U au (ax.EZ U U om) ae ?_
 refine .blind 16 U au (ax.eql U U) ae (.yj ?_)
 refine .two 1 8 U U au ?_ ?_
 refine .ld lT ?_
 refine .nil ⟨U,(.one 8 U au (.aZ vC (fP (k:=((p.streams.getD et default).a))) U (.aj U U .nil) ae U ?_))⟩
 refine .nil ⟨U,(.one 17 U au (.vl (Y.qh ER ny U U U) (.nil ⟨U,(.one 18 U au (.buildSlice (([(⟨sB,az ((p.streams.getD et default).a),decide (((((p.streams.getD et default).b:Nat):Int) % 2) = 1)⟩:bE)]:List bE).map bE.row) jH ny U U U U U (aq (s:=3) (f:=bE.row) (fun _=>U)) U U U ae ?_))⟩)))⟩
 refine .nil ⟨U,(.one 19 U au (.cL bE.row (br ++ ([(⟨sB,az ((p.streams.getD et default).a),decide (((((p.streams.getD et default).b:Nat):Int) % 2) = 1)⟩:bE)]:List bE)) jH ny U U U U (bg bJ) (aR bJ) (bz bJ) bJ bJ ae ae ?_))⟩
 refine .nil ⟨U,(.one 20 U au (.fa eS ?_))⟩
 refine .nil ⟨U,(.one 21 U au (.ai HX U U U U U U (aH U) U ?_))⟩
 exact .nil ⟨U,(.done au (Le.mk (.c2 (.c (.c .nil))) (.c4 (.c2 (.c .nil)))))⟩
 refine .aZ vC (fP (k:=((p.streams.getD et default).a))) U (.aj U U .nil) ae U ?_
 refine .nil ⟨U,(.two 1 17 U U au ?_ ?_)⟩
 refine .ld lT ?_
 refine .nil ⟨U,(.one 17 U au (.vl (Y.qh ER ny U U U) (.nil ⟨U,(.one 18 U au (.buildSlice (([(⟨sB,az ((p.streams.getD et default).a),decide (((((p.streams.getD et default).b:Nat):Int) % 2) = 1)⟩:bE)]:List bE).map bE.row) jH ny U U U U U (aq (s:=3) (f:=bE.row) (fun _=>U)) U U U ae ?_))⟩)))⟩
 refine .nil ⟨U,(.one 19 U au (.cL bE.row (br ++ ([(⟨sB,az ((p.streams.getD et default).a),decide (((((p.streams.getD et default).b:Nat):Int) % 2) = 1)⟩:bE)]:List bE)) jH ny U U U U (bg bJ) (aR bJ) (bz bJ) bJ bJ ae ae ?_))⟩
 refine .nil ⟨U,(.one 20 U au (.fa eS ?_))⟩
 refine .nil ⟨U,(.one 21 U au (.ai HX U U U U U U (aH U) U ?_))⟩
 exact .nil ⟨U,(.done au (Le.mk (.c2 (.c (.c .nil))) (.c4 (.c2 (.c .nil)))))⟩
 refine .vl (Y.qh ER ny U U U) (.nil ⟨U,(.two 1 18 U U au ?_ ?_)⟩)
 refine .ld lT ?_
 refine .nil ⟨U,(.one 18 U au (.buildSlice (([(⟨sB,az ((p.streams.getD et default).a),decide (((((p.streams.getD et default).b:Nat):Int) % 2) = 1)⟩:bE)]:List bE).map bE.row) jH ny U U U U U (aq (s:=3) (f:=bE.row) (fun _=>U)) U U U ae ?_))⟩
 refine .nil ⟨U,(.one 19 U au (.cL bE.row (br ++ ([(⟨sB,az ((p.streams.getD et default).a),decide (((((p.streams.getD et default).b:Nat):Int) % 2) = 1)⟩:bE)]:List bE)) jH ny U U U U (bg bJ) (aR bJ) (bz bJ) bJ bJ ae ae ?_))⟩
 refine .nil ⟨U,(.one 20 U au (.fa eS ?_))⟩
 refine .nil ⟨U,(.one 21 U au (.ai HX U U U U U U (aH U) U ?_))⟩
 exact .nil ⟨U,(.done au (Le.mk (.c2 (.c (.c .nil))) (.c4 (.c2 (.c .nil)))))⟩
 refine .buildSlice (([(⟨sB,az ((p.streams.getD et default).a),decide (((((p.streams.getD et default).b:Nat):Int) % 2) = 1)⟩:bE)]:List bE).map bE.row) jH ny U U U U U (aq (s:=3) (f:=bE.row) (fun _=>U)) U U U ae ?_
 refine .nil ⟨U,(.one 1 U au (.ld lT ?_))⟩
 refine .nil ⟨U,(.one 19 U au (.cL bE.row (br ++ ([(⟨sB,az ((p.streams.getD et default).a),decide (((((p.streams.getD et default).b:Nat):Int) % 2) = 1)⟩:bE)]:List bE)) jH ny U U U U (bg bJ) (aR bJ) (bz bJ) bJ bJ ae ae ?_))⟩
 refine .nil ⟨U,(.one 20 U au (.fa eS ?_))⟩
 refine .nil ⟨U,(.one 21 U au (.ai HX U U U U U U (aH U) U ?_))⟩
 exact .nil ⟨U,(.done au (Le.mk (.c2 (.c (.c .nil))) (.c4 (.c2 (.c .nil)))))⟩
 refine .region (.mv ?_)
 refine .vl (Y.qb U U om) (.an ?_)
 refine .nil (⟨et + 1,br ++ ([(⟨sB,az ((p.streams.getD et default).a),decide (((((p.streams.getD et default).b:Nat):Int) % 2) = 1)⟩:bE)]:List bE),⟨om,tX hs Ae,by rw [List.length_append,M0]; rfl⟩,om,Le.mk (.c2 (.c (.cons (ak U bc) .nil))) (.c (.cons (ay U eR) (.c4 (.c .nil))))⟩)
 refine .exit (.seq (.sr (.an (.nil (.block ?_)))))
 refine .iD (fun (iF:Nat) (bF:List Int)=>⟨[(1,.fp (nL.row p) 0),(2,.ptr 102 0 0 0),(3,.ptr 103 0 0 0),(7,vi iF)],[(102,.cells [.v (.string ByteArray.empty),vn,vn,vn,vn,vn,vn,vn,vi 0,vi 0,vn]),(103,.cells [.v (.string nB),.aL 401 1 0 ee.length,.aL 402 6 0 eE.length,.aL 403 1 0 bF.length,.aL 404 5 0 bS.length,.aL 405 3 0 br.length,vn,vn,vi 0,vi 0,vn]),(401,.rows 1 (ee.map ah)),(402,.rows 6 (eE.map Cell.row)),(403,.rows 1 (bF.map ah)),(404,.rows 5 (bS.map eA.row)),(405,.rows 3 (br.map bE.row))]⟩) (fun iF bF=>((iF:Int) <= (p.ins.length:Int)) /\ (∀ m ∈ bF,∃ k,m = az k) /\ (bF.length = iF)) (fun iF bF=>((p.ins.length:Int) - (iF:Int)).toNat) 0 ([]:List Int) (⟨om,fun m h=>(by cases h),U⟩) (Le.mk (.c2 (.c (.cons (ak U bc) .nil))) (.c (.cons (ay U eR) (.c4 (.c .nil))))) (fun iF bF Ga=>?_)
 obtain ⟨PS,nK,zE⟩:=Ga
 refine .seq (.sr (.mv ?_))
 refine .fa Ah ?_
 refine .ld CN ?_
 refine .vl (Y.qx (n:=p.ins.length) CO U fV) (.vl (Y.zc U U) (.nil (.aA U (fun nz=>?_) (fun nz=>?_))))
 refine .skip (.seq (.block ?_))
 have VB:=hk.ins (p.ins.getD iF 0) (getD_in om)
 refine .dW (⟨[(1,.fp (nL.row p) 0),(2,.ptr 102 0 0 0),(3,.ptr 103 0 0 0),(7,.v (.int .i64 (iF:Int)))],[(102,.cells [.v (.string ByteArray.empty),vn,vn,vn,vn,vn,vn,vn,.v (.int .i64 0),.v (.int .i64 0),vn]),(103,.cells [.v (.string nB),.aL 401 1 0 ee.length,.aL 402 6 0 eE.length,.aL 403 1 0 ((bF ++ ([az (p.ins.getD iF 0)]:List Int)).length),.aL 404 5 0 bS.length,.aL 405 3 0 br.length,vn,vn,.v (.int .i64 0),.v (.int .i64 0),vn]),(401,.rows 1 (ee.map ah)),(402,.rows 6 (eE.map Cell.row)),(403,.rows 1 ((bF ++ ([az (p.ins.getD iF 0)]:List Int)).map ah)),(404,.rows 5 (bS.map eA.row)),(405,.rows 3 (br.map bE.row))]⟩) U ?_ ?_
 refine .blind 0 U au (ax.fieldAddr lb U U) ae (.blind 2 U au (ax.fieldAddr Ah U U) ae (.load 3 U au CN U U U U U ae ?_))
 refine .blind 4 U au (ax.move U U) ae (.blind 5 U au (ax.kj (m:=iF) CO U U bc (ao (d:=0) om)) ae ?_)
 refine .load 6 U au tl U U U U U ae (.yj ?_)
 refine .two 1 7 U U au ?_ ?_
 refine .ld bt ?_
 refine .nil ⟨U,(.one 7 U au (.aZ vC (fP (k:=(p.ins.getD iF 0))) U (.aj U U .nil) ae U ?_))⟩
 refine .nil ⟨U,(.one 8 U au (.buildSlice (([az (p.ins.getD iF 0)]:List Int).map ah) a7 dD U U U U U (aq (s:=1) (f:=ah) (fun _=>U)) U U U ae ?_))⟩
 refine .nil ⟨U,(.one 9 U au (.cL ah (bF ++ ([az (p.ins.getD iF 0)]:List Int)) a7 dD U U U U (bg bJ) (aR bJ) (bz bJ) bJ bJ ae ae ?_))⟩
 refine .nil ⟨U,(.one 10 U au (.fa lb ?_))⟩
 refine .nil ⟨U,(.one 11 U au (.ai fJ U U U U U U (aH U) U ?_))⟩
 exact .nil ⟨U,(.done au (Le.mk (.c2 (.c (.c .nil))) (.c4 (.c2 (.c .nil)))))⟩
 refine .aZ vC (fP (k:=(p.ins.getD iF 0))) U (.aj U U .nil) ae U ?_
 refine .nil ⟨U,(.two 1 8 U U au ?_ ?_)⟩
 refine .ld bt ?_
 refine .nil ⟨U,(.one 8 U au (.buildSlice (([az (p.ins.getD iF 0)]:List Int).map ah) a7 dD U U U U U (aq (s:=1) (f:=ah) (fun _=>U)) U U U ae ?_))⟩
 refine .nil ⟨U,(.one 9 U au (.cL ah (bF ++ ([az (p.ins.getD iF 0)]:List Int)) a7 dD U U U U (bg bJ) (aR bJ) (bz bJ) bJ bJ ae ae ?_))⟩
 refine .nil ⟨U,(.one 10 U au (.fa lb ?_))⟩
 refine .nil ⟨U,(.one 11 U au (.ai fJ U U U U U U (aH U) U ?_))⟩
 exact .nil ⟨U,(.done au (Le.mk (.c2 (.c (.c .nil))) (.c4 (.c2 (.c .nil)))))⟩
 refine .buildSlice (([az (p.ins.getD iF 0)]:List Int).map ah) a7 dD U U U U U (aq (s:=1) (f:=ah) (fun _=>U)) U U U ae ?_
 refine .nil ⟨U,(.one 1 U au (.ld bt ?_))⟩
 refine .nil ⟨U,(.one 9 U au (.cL ah (bF ++ ([az (p.ins.getD iF 0)]:List Int)) a7 dD U U U U (bg bJ) (aR bJ) (bz bJ) bJ bJ ae ae ?_))⟩
 refine .nil ⟨U,(.one 10 U au (.fa lb ?_))⟩
 refine .nil ⟨U,(.one 11 U au (.ai fJ U U U U U U (aH U) U ?_))⟩
 exact .nil ⟨U,(.done au (Le.mk (.c2 (.c (.c .nil))) (.c4 (.c2 (.c .nil)))))⟩
 refine .region (.mv ?_)
 refine .vl (Y.qb U U om) (.an ?_)
 refine .nil (⟨iF + 1,bF ++ ([az (p.ins.getD iF 0)]:List Int),⟨om,tX nK ⟨_,U⟩,by rw [List.length_append,zE]; rfl⟩,om,Le.mk (.c2 (.c (.cons (ak U bc) .nil))) (.c (.cons (ay U eR) (.c4 (.c .nil))))⟩)
 refine .exit (.seq (.seq (.sh (Sh.rY 103 403 3 U U U (aU om) (cC.map aI) ae U U U) (.sh (Sh.rY 103 404 4 U U U (aU om) (cC.map eA.bA) ae U U U) (.sh (Sh.rY 103 405 5 U U U (aU om) (cC.map bE.bA) ae U U U) (.region (.an (.nil (.block ?_)))))))))
 refine .eh (fun (jN:Nat) (a8:List Int) (bG:List Cell)=>⟨[(1,.fp (nL.row p) 0),(2,.ptr 102 0 0 0),(3,.ptr 103 0 0 0),(8,vi jN)],[(102,.cells [.v (.string ByteArray.empty),vn,vn,vn,vn,vn,vn,vn,vi 0,vi 0,vn]),(103,.cells [.v (.string nB),.aL 401 1 0 a8.length,.aL 402 6 0 bG.length,.fz 1 (bF.map ah),.fz 5 (bS.map eA.row),.fz 3 (br.map bE.row),vn,vn,vi 0,vi 0,vn]),(401,.rows 1 (a8.map ah)),(402,.rows 6 (bG.map Cell.row))]⟩) (fun jN a8 bG=>((jN:Int) <= (p.parts.length:Int)) /\ (Gr (pn a8 bG bF bS br)) /\ (8 <= bG.length /\ bG.length <= 8 + jN) /\ (8 <= a8.length /\ a8.length <= 8 + jN)) (fun jN a8 bG=>((p.parts.length:Int) - (jN:Int)).toNat) 0 ee eE (⟨om,by rw [Rv,JK,show dO = 8 by omega]; exact Yy (fun m h=>(hm m h).2) (fun m h=>(hs m h).2) nK,by rw [JK,HO]; omega,by rw [Rv,rI]; omega⟩) (Le.mk (.c2 (.c (.cons (ak U bc) .nil))) (.c (.cons (ay U eR) (.c (.c .nil))))) (fun jN a8 bG Gz=>?_)
 obtain ⟨Qt,oq,vx,vy⟩:=Gz
 refine .seq (.sr (.mv ?_))
 refine .fa qO ?_
 refine .ld Aj ?_
 refine .vl (Y.qx (n:=p.parts.length) Ak U fV) (.vl (Y.zc U U) (.nil (.aA U (fun vm=>?_) (fun vm=>?_))))
 refine .skip (.lk (fun (kT:List Int) (kU:List Cell)=>⟨[(1,.fp (nL.row p) 0),(2,.ptr 102 0 0 0),(3,.ptr 103 0 0 0),(8,vi jN)],[(102,.cells [.v (.string ByteArray.empty),vn,vn,vn,vn,vn,vn,vn,vi 0,vi 0,vn]),(103,.cells [.v (.string nB),.aL 401 1 0 kT.length,.aL 402 6 0 kU.length,.fz 1 (bF.map ah),.fz 5 (bS.map eA.row),.fz 3 (br.map bE.row),vn,vn,vi 0,vi 0,vn]),(401,.rows 1 (kT.map ah)),(402,.rows 6 (kU.map Cell.row))]⟩) (fun kT kU=>Gr (pn kT kU bF bS br) /\ (8 <= kU.length /\ kU.length <= 8 + (jN + 1)) /\ (8 <= kT.length /\ kT.length <= 8 + (jN + 1))) ?_ (fun kT kU FT=>?_))
 refine .block (.seq (.g7 [103] [102,103,401,402] U ?_))
 refine .fe 0 U au gm U U U (aH U) U U ae (.blind 1 U au (ax.fieldAddr qO U U) ae (.load 2 U au Aj U U U U U ae ?_))
 refine .blind 3 U au (ax.move U U) ae (.blind 4 U au (ax.kj (m:=jN) Ak U U bc (ao (d:=default) om)) ae ?_)
 refine .fe 5 U au ES U U U (aH U) U U ae (.GZ U U (bZ.cells U U U bZ.nil) ?_)
 refine .two 6 10 U U au ?_ ?_
 refine .Es [401,402] OJ (wD (n:=(⟨nB,a8,bG,bF,bS,br,[],[],0,0,[]⟩:ab)) (p:=(p.parts.getD jN default)) (by show (a8).length <= 1048576; omega) (by show 0 < (a8).length; omega) (V7 _ (getD_in om)) oq.ground (by show (bF).length <= 1048576; omega)) U (.agg (.aj U U (.cB U U (b7 om) (b8 om) (.cB U U (b7 om) (b8 om) (.aj U U (.aj U U (.aj U U (.aj U U (.aj U U (.aj U U (.aj U U (.aj U U .nil))))))))))) U (.aj U U .nil)) (eX U (bq aI) (kH U (bq Cell.bA))) ae ?_
 rintro _ ⟨aP,kV,gF,rfl,_⟩
 refine ⟨U,⟨⟨trivial,trivial,trivial,(ke mF _),trivial,trivial,trivial⟩,trivial,trivial⟩,(.nil ⟨U,(.two 7 10 U U au ?_ ?_)⟩)⟩
 refine .oR U ae ?_
 refine .nil ⟨U,(.blind 9 U au (ax.extract U U U) ae ?_)⟩
 refine .two 8 10 U U au ?_ ?_
 refine .iX U U ae ?_
 refine .nil ⟨U,(.one 10 U au (.alloc 109 ez U U ae ?_))⟩
 refine .nil ⟨U,(.one 11 U au (.sh (Sh.nS (d:=127) (y:=.agg [.v (.int .i64 aP.kind),.v (.int .i64 aP.op),.v (.int .i64 aP.out),.fz 1 (aP.args.map ah),.v (.int .u64 (aP.num:Int)),.v (.int .i64 aP.mem)]) U (by show X.mC (.agg [.v (.int .i64 aP.kind),.v (.int .i64 aP.op),.v (.int .i64 aP.out),.dH 1 (aP.args.map ah),.v (.int .u64 (aP.num:Int)),.v (.int .i64 aP.mem)]) = _; simp only [X.mC,X.jj,X.g5 (cC.map aI)])) (.ai g6 U U U U U U (aH U) U ?_)))⟩
 refine .nil ⟨U,(.one 12 U au (.an (.nil ⟨U,?_⟩)))⟩
 refine .done au (.le (aY:=⟨[(1,.fp (nL.row p) 0),(2,.ptr 102 0 0 0),(3,.ptr 103 0 0 0),(8,vi jN),(9,.ptr 109 0 0 0),(10,vi kV)],[(102,.cells [.v (.string ByteArray.empty),vn,vn,vn,vn,vn,vn,vn,vi 0,vi 0,vn]),(103,.cells [.v (.string nB),.aL 401 1 0 a8.length,.aL 402 6 0 bG.length,.fz 1 (bF.map ah),.fz 5 (bS.map eA.row),.fz 3 (br.map bE.row),vn,vn,vi 0,vi 0,vn]),(109,.cells [vi aP.kind,vi aP.op,vi aP.out,.fz 1 (aP.args.map ah),.v (.int .u64 (aP.num:Int)),vi aP.mem]),(401,.rows 1 (a8.map ah)),(402,.rows 6 (bG.map Cell.row))]⟩) (Le.mk (.c4 (.c (.c .nil))) (.c4 (.c .nil))) (.sr (.fa dC ?_)))
 refine .ld bj ?_
 refine .vl (Y.zl U U) (.nil (.aA U (fun pg=>?_) (fun pg=>?_)))
 refine .seq (.sr (.fa dC ?_))
 refine .ld bj ?_
 refine .vl (Y.zl U U) (.nil (.aA U (fun Bc=>?_) (fun Bc=>?_)))
 refine .sr (.fa bO ?_)
 refine .ld bt ?_
 refine .vl (Y.qx (n:=a8.length) a7 U U) (.fa eo ?_)
 refine .ai dS U U U U U U (aH U) U (.nil (.region (.fa bO ?_)))
 refine .ld bt ?_
 refine .mv ?_
 refine .buildSlice (([kV]:List Int).map ah) a7 dD U U U U U (aq (s:=1) (f:=ah) (fun _=>U)) U U U ae ?_
 refine .cL ah (a8 ++ ([kV]:List Int)) a7 dD U U U U (bg bJ) (aR bJ) (bz bJ) bJ bJ ae ae ?_
 refine .fa bO ?_
 refine .ai fJ U U U U U U (aH U) U (.nil (.region (.fa bX ?_)))
 refine .ld gk ?_
 refine .vl (Y.zb fA U U (aH U) U U) (.buildSlice (([(⟨aP.kind,aP.op,(a8.length:Int),aP.args,aP.num,aP.mem⟩:Cell)]:List Cell).map Cell.row) dV ez U U U U U (aq (s:=6) (f:=Cell.row) (fun _=>U)) U U U ae ?_)
 refine .cL Cell.row (bG ++ ([(⟨aP.kind,aP.op,(a8.length:Int),aP.args,aP.num,aP.mem⟩:Cell)]:List Cell)) dV ez U U U U (bg bJ) (aR bJ) (bz bJ) bJ bJ ae ae ?_
 refine .fa bX ?_
 exact .ai tJ U U U U U U (aH U) U (.nil (⟨a8 ++ ([kV]:List Int),bG ++ ([(⟨aP.kind,aP.op,(a8.length:Int),aP.args,aP.num,aP.mem⟩:Cell)]:List Cell),by first | exact ⟨oq.add om (gF.resolve_left ej) ej,oF,oF⟩ | exact ⟨oq.tH om (gF.resolve_left ej) (Classical.not_not.1 ej),oF,om⟩ | exact ⟨oq,om,om⟩,Le.mk (.c2 (.c (.c .nil))) (.c (.cons (ay U eR) (.c (.c .nil))))⟩))
 refine .skip (.region (.fa bX ?_))
 refine .ld gk ?_
 refine .vl (Y.zb fA U U (aH U) U U) (.buildSlice (([aP]:List Cell).map Cell.row) dV ez U U U U U (aq (s:=6) (f:=Cell.row) (fun _=>U)) U U U ae ?_)
 refine .cL Cell.row (bG ++ ([aP]:List Cell)) dV ez U U U U (bg bJ) (aR bJ) (bz bJ) bJ bJ ae ae ?_
 refine .fa bX ?_
 exact .ai tJ U U U U U U (aH U) U (.nil (⟨a8,bG ++ ([aP]:List Cell),by first | exact ⟨oq.add om (gF.resolve_left ej) ej,oF,oF⟩ | exact ⟨oq.tH om (gF.resolve_left ej) (Classical.not_not.1 ej),oF,om⟩ | exact ⟨oq,om,om⟩,Le.mk (.c2 (.c (.c .nil))) (.c (.cons (ay U eR) (.c (.c .nil))))⟩))
 refine .skip (⟨a8,bG,by first | exact ⟨oq.add om (gF.resolve_left ej) ej,oF,oF⟩ | exact ⟨oq.tH om (gF.resolve_left ej) (Classical.not_not.1 ej),oF,om⟩ | exact ⟨oq,om,om⟩,Le.mk (.c2 (.c (.c .nil))) (.c (.cons (ay U eR) (.c (.c .nil))))⟩)
 refine .alloc 109 ez U U ae ?_
 refine .nil ⟨U,(.one 8 U au (.iX U U ae ?_))⟩
 refine .nil ⟨U,(.one 11 U au (.sh (Sh.nS (d:=127) (y:=.agg [.v (.int .i64 aP.kind),.v (.int .i64 aP.op),.v (.int .i64 aP.out),.fz 1 (aP.args.map ah),.v (.int .u64 (aP.num:Int)),.v (.int .i64 aP.mem)]) U (by show X.mC (.agg [.v (.int .i64 aP.kind),.v (.int .i64 aP.op),.v (.int .i64 aP.out),.dH 1 (aP.args.map ah),.v (.int .u64 (aP.num:Int)),.v (.int .i64 aP.mem)]) = _; simp only [X.mC,X.jj,X.g5 (cC.map aI)])) (.ai g6 U U U U U U (aH U) U ?_)))⟩
 refine .nil ⟨U,(.one 12 U au (.an (.nil ⟨U,?_⟩)))⟩
 refine .done au (.le (aY:=⟨[(1,.fp (nL.row p) 0),(2,.ptr 102 0 0 0),(3,.ptr 103 0 0 0),(8,vi jN),(9,.ptr 109 0 0 0),(10,vi kV)],[(102,.cells [.v (.string ByteArray.empty),vn,vn,vn,vn,vn,vn,vn,vi 0,vi 0,vn]),(103,.cells [.v (.string nB),.aL 401 1 0 a8.length,.aL 402 6 0 bG.length,.fz 1 (bF.map ah),.fz 5 (bS.map eA.row),.fz 3 (br.map bE.row),vn,vn,vi 0,vi 0,vn]),(109,.cells [vi aP.kind,vi aP.op,vi aP.out,.fz 1 (aP.args.map ah),.v (.int .u64 (aP.num:Int)),vi aP.mem]),(401,.rows 1 (a8.map ah)),(402,.rows 6 (bG.map Cell.row))]⟩) (Le.mk (.c4 (.c (.c .nil))) (.c4 (.c .nil))) (.sr (.fa dC ?_)))
 refine .ld bj ?_
 refine .vl (Y.zl U U) (.nil (.aA U (fun pg=>?_) (fun pg=>?_)))
 refine .seq (.sr (.fa dC ?_))
 refine .ld bj ?_
 refine .vl (Y.zl U U) (.nil (.aA U (fun Bc=>?_) (fun Bc=>?_)))
 refine .sr (.fa bO ?_)
 refine .ld bt ?_
 refine .vl (Y.qx (n:=a8.length) a7 U U) (.fa eo ?_)
 refine .ai dS U U U U U U (aH U) U (.nil (.region (.fa bO ?_)))
 refine .ld bt ?_
 refine .mv ?_
 refine .buildSlice (([kV]:List Int).map ah) a7 dD U U U U U (aq (s:=1) (f:=ah) (fun _=>U)) U U U ae ?_
 refine .cL ah (a8 ++ ([kV]:List Int)) a7 dD U U U U (bg bJ) (aR bJ) (bz bJ) bJ bJ ae ae ?_
 refine .fa bO ?_
 refine .ai fJ U U U U U U (aH U) U (.nil (.region (.fa bX ?_)))
 refine .ld gk ?_
 refine .vl (Y.zb fA U U (aH U) U U) (.buildSlice (([(⟨aP.kind,aP.op,(a8.length:Int),aP.args,aP.num,aP.mem⟩:Cell)]:List Cell).map Cell.row) dV ez U U U U U (aq (s:=6) (f:=Cell.row) (fun _=>U)) U U U ae ?_)
 refine .cL Cell.row (bG ++ ([(⟨aP.kind,aP.op,(a8.length:Int),aP.args,aP.num,aP.mem⟩:Cell)]:List Cell)) dV ez U U U U (bg bJ) (aR bJ) (bz bJ) bJ bJ ae ae ?_
 refine .fa bX ?_
 exact .ai tJ U U U U U U (aH U) U (.nil (⟨a8 ++ ([kV]:List Int),bG ++ ([(⟨aP.kind,aP.op,(a8.length:Int),aP.args,aP.num,aP.mem⟩:Cell)]:List Cell),by first | exact ⟨oq.add om (gF.resolve_left ej) ej,oF,oF⟩ | exact ⟨oq.tH om (gF.resolve_left ej) (Classical.not_not.1 ej),oF,om⟩ | exact ⟨oq,om,om⟩,Le.mk (.c2 (.c (.c .nil))) (.c (.cons (ay U eR) (.c (.c .nil))))⟩))
 refine .skip (.region (.fa bX ?_))
 refine .ld gk ?_
 refine .vl (Y.zb fA U U (aH U) U U) (.buildSlice (([aP]:List Cell).map Cell.row) dV ez U U U U U (aq (s:=6) (f:=Cell.row) (fun _=>U)) U U U ae ?_)
 refine .cL Cell.row (bG ++ ([aP]:List Cell)) dV ez U U U U (bg bJ) (aR bJ) (bz bJ) bJ bJ ae ae ?_
 refine .fa bX ?_
 exact .ai tJ U U U U U U (aH U) U (.nil (⟨a8,bG ++ ([aP]:List Cell),by first | exact ⟨oq.add om (gF.resolve_left ej) ej,oF,oF⟩ | exact ⟨oq.tH om (gF.resolve_left ej) (Classical.not_not.1 ej),oF,om⟩ | exact ⟨oq,om,om⟩,Le.mk (.c2 (.c (.c .nil))) (.c (.cons (ay U eR) (.c (.c .nil))))⟩))
 refine .skip (⟨a8,bG,by first | exact ⟨oq.add om (gF.resolve_left ej) ej,oF,oF⟩ | exact ⟨oq.tH om (gF.resolve_left ej) (Classical.not_not.1 ej),oF,om⟩ | exact ⟨oq,om,om⟩,Le.mk (.c2 (.c (.c .nil))) (.c (.cons (ay U eR) (.c (.c .nil))))⟩)
 refine .alloc 109 ez U U ae ?_
 refine .nil ⟨U,(.one 7 U au (.oR U ae ?_))⟩
 refine .nil ⟨U,(.blind 9 U au (ax.extract U U U) ae (.one 8 U au (.iX U U ae ?_)))⟩
 refine .nil ⟨U,(.one 11 U au (.sh (Sh.nS (d:=127) (y:=.agg [.v (.int .i64 aP.kind),.v (.int .i64 aP.op),.v (.int .i64 aP.out),.fz 1 (aP.args.map ah),.v (.int .u64 (aP.num:Int)),.v (.int .i64 aP.mem)]) U (by show X.mC (.agg [.v (.int .i64 aP.kind),.v (.int .i64 aP.op),.v (.int .i64 aP.out),.dH 1 (aP.args.map ah),.v (.int .u64 (aP.num:Int)),.v (.int .i64 aP.mem)]) = _; simp only [X.mC,X.jj,X.g5 (cC.map aI)])) (.ai g6 U U U U U U (aH U) U ?_)))⟩
 refine .nil ⟨U,(.one 12 U au (.an (.nil ⟨U,?_⟩)))⟩
 refine .done au (.le (aY:=⟨[(1,.fp (nL.row p) 0),(2,.ptr 102 0 0 0),(3,.ptr 103 0 0 0),(8,vi jN),(9,.ptr 109 0 0 0),(10,vi kV)],[(102,.cells [.v (.string ByteArray.empty),vn,vn,vn,vn,vn,vn,vn,vi 0,vi 0,vn]),(103,.cells [.v (.string nB),.aL 401 1 0 a8.length,.aL 402 6 0 bG.length,.fz 1 (bF.map ah),.fz 5 (bS.map eA.row),.fz 3 (br.map bE.row),vn,vn,vi 0,vi 0,vn]),(109,.cells [vi aP.kind,vi aP.op,vi aP.out,.fz 1 (aP.args.map ah),.v (.int .u64 (aP.num:Int)),vi aP.mem]),(401,.rows 1 (a8.map ah)),(402,.rows 6 (bG.map Cell.row))]⟩) (Le.mk (.c4 (.c (.c .nil))) (.c4 (.c .nil))) (.sr (.fa dC ?_)))
 refine .ld bj ?_
 refine .vl (Y.zl U U) (.nil (.aA U (fun pg=>?_) (fun pg=>?_)))
 refine .seq (.sr (.fa dC ?_))
 refine .ld bj ?_
 refine .vl (Y.zl U U) (.nil (.aA U (fun Bc=>?_) (fun Bc=>?_)))
 refine .sr (.fa bO ?_)
 refine .ld bt ?_
 refine .vl (Y.qx (n:=a8.length) a7 U U) (.fa eo ?_)
 refine .ai dS U U U U U U (aH U) U (.nil (.region (.fa bO ?_)))
 refine .ld bt ?_
 refine .mv ?_
 refine .buildSlice (([kV]:List Int).map ah) a7 dD U U U U U (aq (s:=1) (f:=ah) (fun _=>U)) U U U ae ?_
 refine .cL ah (a8 ++ ([kV]:List Int)) a7 dD U U U U (bg bJ) (aR bJ) (bz bJ) bJ bJ ae ae ?_
 refine .fa bO ?_
 refine .ai fJ U U U U U U (aH U) U (.nil (.region (.fa bX ?_)))
 refine .ld gk ?_
 refine .vl (Y.zb fA U U (aH U) U U) (.buildSlice (([(⟨aP.kind,aP.op,(a8.length:Int),aP.args,aP.num,aP.mem⟩:Cell)]:List Cell).map Cell.row) dV ez U U U U U (aq (s:=6) (f:=Cell.row) (fun _=>U)) U U U ae ?_)
 refine .cL Cell.row (bG ++ ([(⟨aP.kind,aP.op,(a8.length:Int),aP.args,aP.num,aP.mem⟩:Cell)]:List Cell)) dV ez U U U U (bg bJ) (aR bJ) (bz bJ) bJ bJ ae ae ?_
 refine .fa bX ?_
 exact .ai tJ U U U U U U (aH U) U (.nil (⟨a8 ++ ([kV]:List Int),bG ++ ([(⟨aP.kind,aP.op,(a8.length:Int),aP.args,aP.num,aP.mem⟩:Cell)]:List Cell),by first | exact ⟨oq.add om (gF.resolve_left ej) ej,oF,oF⟩ | exact ⟨oq.tH om (gF.resolve_left ej) (Classical.not_not.1 ej),oF,om⟩ | exact ⟨oq,om,om⟩,Le.mk (.c2 (.c (.c .nil))) (.c (.cons (ay U eR) (.c (.c .nil))))⟩))
 refine .skip (.region (.fa bX ?_))
 refine .ld gk ?_
 refine .vl (Y.zb fA U U (aH U) U U) (.buildSlice (([aP]:List Cell).map Cell.row) dV ez U U U U U (aq (s:=6) (f:=Cell.row) (fun _=>U)) U U U ae ?_)
 refine .cL Cell.row (bG ++ ([aP]:List Cell)) dV ez U U U U (bg bJ) (aR bJ) (bz bJ) bJ bJ ae ae ?_
 refine .fa bX ?_
 exact .ai tJ U U U U U U (aH U) U (.nil (⟨a8,bG ++ ([aP]:List Cell),by first | exact ⟨oq.add om (gF.resolve_left ej) ej,oF,oF⟩ | exact ⟨oq.tH om (gF.resolve_left ej) (Classical.not_not.1 ej),oF,om⟩ | exact ⟨oq,om,om⟩,Le.mk (.c2 (.c (.c .nil))) (.c (.cons (ay U eR) (.c (.c .nil))))⟩))
 refine .skip (⟨a8,bG,by first | exact ⟨oq.add om (gF.resolve_left ej) ej,oF,oF⟩ | exact ⟨oq.tH om (gF.resolve_left ej) (Classical.not_not.1 ej),oF,om⟩ | exact ⟨oq,om,om⟩,Le.mk (.c2 (.c (.c .nil))) (.c (.cons (ay U eR) (.c (.c .nil))))⟩)
 refine .alloc 109 ez U U ae ?_
 refine .nil ⟨U,(.one 6 U au (.Es [401,402] OJ (wD (n:=(⟨nB,a8,bG,bF,bS,br,[],[],0,0,[]⟩:ab)) (p:=(p.parts.getD jN default)) (by show (a8).length <= 1048576; omega) (by show 0 < (a8).length; omega) (V7 _ (getD_in om)) oq.ground (by show (bF).length <= 1048576; omega)) U (.agg (.aj U U (.cB U U (b7 om) (b8 om) (.cB U U (b7 om) (b8 om) (.aj U U (.aj U U (.aj U U (.aj U U (.aj U U (.aj U U (.aj U U (.aj U U .nil))))))))))) U (.aj U U .nil)) (eX U (bq aI) (kH U (bq Cell.bA))) ae ?_))⟩
 rintro _ ⟨aP,kV,gF,rfl,_⟩
 refine ⟨U,⟨⟨trivial,trivial,trivial,(ke mF _),trivial,trivial,trivial⟩,trivial,trivial⟩,(.nil ⟨U,(.one 7 U au (.oR U ae ?_))⟩)⟩
 refine .nil ⟨U,(.blind 9 U au (ax.extract U U U) ae (.one 8 U au (.iX U U ae ?_)))⟩
 refine .nil ⟨U,(.one 11 U au (.sh (Sh.nS (d:=127) (y:=.agg [.v (.int .i64 aP.kind),.v (.int .i64 aP.op),.v (.int .i64 aP.out),.fz 1 (aP.args.map ah),.v (.int .u64 (aP.num:Int)),.v (.int .i64 aP.mem)]) U (by show X.mC (.agg [.v (.int .i64 aP.kind),.v (.int .i64 aP.op),.v (.int .i64 aP.out),.dH 1 (aP.args.map ah),.v (.int .u64 (aP.num:Int)),.v (.int .i64 aP.mem)]) = _; simp only [X.mC,X.jj,X.g5 (cC.map aI)])) (.ai g6 U U U U U U (aH U) U ?_)))⟩
 refine .nil ⟨U,(.one 12 U au (.an (.nil ⟨U,?_⟩)))⟩
 refine .done au (.le (aY:=⟨[(1,.fp (nL.row p) 0),(2,.ptr 102 0 0 0),(3,.ptr 103 0 0 0),(8,vi jN),(9,.ptr 109 0 0 0),(10,vi kV)],[(102,.cells [.v (.string ByteArray.empty),vn,vn,vn,vn,vn,vn,vn,vi 0,vi 0,vn]),(103,.cells [.v (.string nB),.aL 401 1 0 a8.length,.aL 402 6 0 bG.length,.fz 1 (bF.map ah),.fz 5 (bS.map eA.row),.fz 3 (br.map bE.row),vn,vn,vi 0,vi 0,vn]),(109,.cells [vi aP.kind,vi aP.op,vi aP.out,.fz 1 (aP.args.map ah),.v (.int .u64 (aP.num:Int)),vi aP.mem]),(401,.rows 1 (a8.map ah)),(402,.rows 6 (bG.map Cell.row))]⟩) (Le.mk (.c4 (.c (.c .nil))) (.c4 (.c .nil))) (.sr (.fa dC ?_)))
 refine .ld bj ?_
 refine .vl (Y.zl U U) (.nil (.aA U (fun pg=>?_) (fun pg=>?_)))
 refine .seq (.sr (.fa dC ?_))
 refine .ld bj ?_
 refine .vl (Y.zl U U) (.nil (.aA U (fun Bc=>?_) (fun Bc=>?_)))
 refine .sr (.fa bO ?_)
 refine .ld bt ?_
 refine .vl (Y.qx (n:=a8.length) a7 U U) (.fa eo ?_)
 refine .ai dS U U U U U U (aH U) U (.nil (.region (.fa bO ?_)))
 refine .ld bt ?_
 refine .mv ?_
 refine .buildSlice (([kV]:List Int).map ah) a7 dD U U U U U (aq (s:=1) (f:=ah) (fun _=>U)) U U U ae ?_
 refine .cL ah (a8 ++ ([kV]:List Int)) a7 dD U U U U (bg bJ) (aR bJ) (bz bJ) bJ bJ ae ae ?_
 refine .fa bO ?_
 refine .ai fJ U U U U U U (aH U) U (.nil (.region (.fa bX ?_)))
 refine .ld gk ?_
 refine .vl (Y.zb fA U U (aH U) U U) (.buildSlice (([(⟨aP.kind,aP.op,(a8.length:Int),aP.args,aP.num,aP.mem⟩:Cell)]:List Cell).map Cell.row) dV ez U U U U U (aq (s:=6) (f:=Cell.row) (fun _=>U)) U U U ae ?_)
 refine .cL Cell.row (bG ++ ([(⟨aP.kind,aP.op,(a8.length:Int),aP.args,aP.num,aP.mem⟩:Cell)]:List Cell)) dV ez U U U U (bg bJ) (aR bJ) (bz bJ) bJ bJ ae ae ?_
 refine .fa bX ?_
 exact .ai tJ U U U U U U (aH U) U (.nil (⟨a8 ++ ([kV]:List Int),bG ++ ([(⟨aP.kind,aP.op,(a8.length:Int),aP.args,aP.num,aP.mem⟩:Cell)]:List Cell),by first | exact ⟨oq.add om (gF.resolve_left ej) ej,oF,oF⟩ | exact ⟨oq.tH om (gF.resolve_left ej) (Classical.not_not.1 ej),oF,om⟩ | exact ⟨oq,om,om⟩,Le.mk (.c2 (.c (.c .nil))) (.c (.cons (ay U eR) (.c (.c .nil))))⟩))
 refine .skip (.region (.fa bX ?_))
 refine .ld gk ?_
 refine .vl (Y.zb fA U U (aH U) U U) (.buildSlice (([aP]:List Cell).map Cell.row) dV ez U U U U U (aq (s:=6) (f:=Cell.row) (fun _=>U)) U U U ae ?_)
 refine .cL Cell.row (bG ++ ([aP]:List Cell)) dV ez U U U U (bg bJ) (aR bJ) (bz bJ) bJ bJ ae ae ?_
 refine .fa bX ?_
 exact .ai tJ U U U U U U (aH U) U (.nil (⟨a8,bG ++ ([aP]:List Cell),by first | exact ⟨oq.add om (gF.resolve_left ej) ej,oF,oF⟩ | exact ⟨oq.tH om (gF.resolve_left ej) (Classical.not_not.1 ej),oF,om⟩ | exact ⟨oq,om,om⟩,Le.mk (.c2 (.c (.c .nil))) (.c (.cons (ay U eR) (.c (.c .nil))))⟩))
 refine .skip (⟨a8,bG,by first | exact ⟨oq.add om (gF.resolve_left ej) ej,oF,oF⟩ | exact ⟨oq.tH om (gF.resolve_left ej) (Classical.not_not.1 ej),oF,om⟩ | exact ⟨oq,om,om⟩,Le.mk (.c2 (.c (.c .nil))) (.c (.cons (ay U eR) (.c (.c .nil))))⟩)
 refine .region (.mv ?_)
 refine .vl (Y.qb U U om) (.an ?_)
 refine .nil (⟨jN + 1,kT,kU,⟨om,FT.1,FT.2.1,FT.2.2⟩,om,Le.mk (.c2 (.c (.cons (ak U bc) .nil))) (.c (.cons (ay U eR) (.c (.c .nil))))⟩)
 refine .exit (.iC (fun (cD:List Cell)=>⟨[(1,.fp (nL.row p) 0),(2,.ptr 102 0 0 0),(3,.ptr 103 0 0 0)],[(102,.cells [.v (.string ByteArray.empty),vn,vn,vn,vn,vn,vn,vn,vi 0,vi 0,vn]),(103,.cells [.v (.string nB),.aL 401 1 0 a8.length,.aL 402 6 0 cD.length,.fz 1 (bF.map ah),.fz 5 (bS.map eA.row),.fz 3 (br.map bE.row),vn,vn,vi 0,vi 0,vn]),(401,.rows 1 (a8.map ah)),(402,.rows 6 (cD.map Cell.row))]⟩) (fun cD=>Gr (pn a8 cD bF bS br) /\ cD.length = bG.length) ?_ (fun cD LH=>?_))
 refine .sr (.an (.nil (.block ?_)))
 refine .iD (fun (lg:Nat) (jO:List Cell)=>⟨[(1,.fp (nL.row p) 0),(2,.ptr 102 0 0 0),(3,.ptr 103 0 0 0),(11,vi lg)],[(102,.cells [.v (.string ByteArray.empty),vn,vn,vn,vn,vn,vn,vn,vi 0,vi 0,vn]),(103,.cells [.v (.string nB),.aL 401 1 0 a8.length,.aL 402 6 0 bG.length,.fz 1 (bF.map ah),.fz 5 (bS.map eA.row),.fz 3 (br.map bE.row),vn,vn,vi 0,vi 0,vn]),(401,.rows 1 (a8.map ah)),(402,.rows 6 (jO.map Cell.row))]⟩) (fun lg jO=>(jO.length = bG.length) /\ (Gr (pn a8 jO bF bS br)) /\ (lg <= p.parts.length) /\ (jO.length = bG.length)) (fun lg jO=>p.parts.length - lg) 0 bG (⟨om,oq,om,U⟩) (Le.mk (.c2 (.c (.cons (ak U bc) .nil))) (.c2 (.c (.c .nil)))) (fun lg jO Mj=>?_)
 obtain ⟨XA,RW,Vy,No⟩:=Mj
 refine .seq (.sr (.mv ?_))
 refine .fa qO ?_
 refine .ld Aj ?_
 refine .vl (Y.qx (n:=p.parts.length) Ak U fV) (.vl (Y.zc U U) (.mv ?_))
 refine .aC (d:=156) U (fun AI=>?_) (fun AI=>?_)
 refine .gw 156 (Y.zh U U) (.gw 156 (Y.qp bX U U) (.gw 156 (Y.za gk U U U U) (.gw 156 (Y.qx (n:=bG.length) dV U U) (.gw 156 (Y.zc U U) (.pk ?_)))))
 refine .nil (.aA U (fun VD=>?_) (fun VD=>?_))
 refine .skip (.seq (.block (.region (.fa qO ?_))))
 refine .ld Aj ?_
 refine .mv ?_
 refine .vl (Y.qs (m:=lg) Ak U U bc (ao (d:=default) om)) (.vl (Y.zb ES U U (aH U) U U) (.mv ?_))
 refine .bw [103,401,402] [] SU (Dr (nm:=nB) (ws:=a8) (cs:=jO) (ins:=bF) (aD:=bS) (streams:=br) (f0:=0) (d0:=0) (p:=(p.parts.getD lg default)) (i:=lg) (cl:=bG.length) om om om (V7 _ (getD_in om)) om (RW.KP om)) U (.named U U (.aj U U (.aj U U .nil))) ⟨U,U,U,trivial⟩ U ae (fun _ h=>by cases h) (fun _ h=>by cases h) ae ae ?_
 rintro r aJ ⟨rfl,rfl⟩ _
 refine ⟨⟨rfl,(by intro ob aW; simp only [List.mem_cons,List.not_mem_nil,or_false] at aW; rcases aW with rfl | rfl | rfl <;> rfl),.inl rfl⟩,(.nil (.region (.mv ?_)))⟩
 refine .vl (Y.qb U U om) (.an ?_)
 refine .nil (⟨lg + 1,ti a8 jO (p.parts.getD lg default) lg,⟨bJ,RW.late om,om,(wi _ _).trans No⟩,om,Le.mk (.c2 (.c (.cons (ak U bc) .nil))) (.c2 (.c (.c .nil)))⟩)
 refine .exit (⟨jO,⟨RW,No⟩,Le.mk (.c2 (.c .nil)) (.c (.cons (ay U eR) (.c (.c .nil))))⟩)
 refine .gz 156 (.gz 156 (.gz 156 (.gz 156 (.gz 156 (.pk ?_)))))
 exact .nil (.cZ U (.exit (⟨jO,⟨RW,No⟩,Le.mk (.c2 (.c .nil)) (.c (.cons (ay U eR) (.c (.c .nil))))⟩)))
 obtain ⟨Mo,hl3⟩:=LH
 refine .seq (.seq (.sh (Sh.eu 103 406 1 6 U U U U ae) (.sh (Sh.eu 103 407 1 7 U U U U ae) (.sh (Sh.eu 103 410 1 10 U U U U ae) (.region (.an (.nil (.block ?_))))))))
 refine .eh (fun (ck:Nat) (cO:List Int) (cP:List Int)=>⟨[(1,.fp (nL.row p) 0),(2,.ptr 102 0 0 0),(3,.ptr 103 0 0 0),(12,vi ck)],[(102,.cells [.v (.string ByteArray.empty),vn,vn,vn,vn,vn,vn,vn,vi 0,vi 0,vn]),(103,.cells [.v (.string nB),.aL 401 1 0 a8.length,.aL 402 6 0 cD.length,.fz 1 (bF.map ah),.fz 5 (bS.map eA.row),.fz 3 (br.map bE.row),.aL 406 1 0 cO.length,.aL 407 1 0 cP.length,vi 0,vi 0,.aL 410 1 0 0]),(401,.rows 1 (a8.map ah)),(402,.rows 6 (cD.map Cell.row)),(406,.rows 1 (cO.map ah)),(407,.rows 1 (cP.map ah)),(410,.rows 1 (([]:List Int).map ah))]⟩) (fun ck cO cP=>((ck:Int) <= (br.length:Int)) /\ (cO.length = ck) /\ (cP.length = ck) /\ (∀ j,j < ck -> wj a8 br cO cP j)) (fun ck cO cP=>((br.length:Int) - (ck:Int)).toNat) 0 ([]:List Int) ([]:List Int) (⟨om,U,U,fun j hj=>by omega⟩) (Le.mk (.c2 (.c (.cons (ak U bc) .nil))) (.c (.cons (ay U eR) (.c4 (.c .nil))))) (fun ck cO cP VE=>?_)
 obtain ⟨ZR,tI,DJ,he⟩:=VE
 refine .seq (.sr (.mv ?_))
 refine .fa eS ?_
 refine .ld lT ?_
 refine .vl (Y.qx (n:=br.length) jH U fV) (.vl (Y.zc U U) (.nil (.aA U (fun VF=>?_) (fun VF=>?_))))
 refine .skip ?_
 refine .iC (fun (nE:List Int)=>⟨[(1,.fp (nL.row p) 0),(2,.ptr 102 0 0 0),(3,.ptr 103 0 0 0),(12,vi ck)],[(102,.cells [.v (.string ByteArray.empty),vn,vn,vn,vn,vn,vn,vn,vi 0,vi 0,vn]),(103,.cells [.v (.string nB),.aL 401 1 0 a8.length,.aL 402 6 0 cD.length,.fz 1 (bF.map ah),.fz 5 (bS.map eA.row),.fz 3 (br.map bE.row),.aL 406 1 0 ((cO ++ ([aB a8 1 ((3 * ck) + 1)]:List Int)).length),.aL 407 1 0 ((cP ++ ([-1]:List Int)).length),vi 0,vi 0,.aL 410 1 0 0]),(401,.rows 1 (a8.map ah)),(402,.rows 6 (cD.map Cell.row)),(406,.rows 1 ((cO ++ ([aB a8 1 ((3 * ck) + 1)]:List Int)).map ah)),(407,.rows 1 (nE.map ah)),(410,.rows 1 (([]:List Int).map ah))]⟩) (fun nE=>(nE.length = (cP ++ ([-1]:List Int)).length) /\ (BF a8 br ck cP nE)) ?_ (fun nE QF=>?_)
 refine .block (.seq ?_)
 refine .dW (⟨[(1,.fp (nL.row p) 0),(2,.ptr 102 0 0 0),(3,.ptr 103 0 0 0),(12,.v (.int .i64 (ck:Int)))],[(102,.cells [.v (.string ByteArray.empty),vn,vn,vn,vn,vn,vn,vn,.v (.int .i64 0),.v (.int .i64 0),vn]),(103,.cells [.v (.string nB),.aL 401 1 0 a8.length,.aL 402 6 0 cD.length,.fz 1 (bF.map ah),.fz 5 (bS.map eA.row),.fz 3 (br.map bE.row),.aL 406 1 0 ((cO ++ ([aB a8 1 ((3 * ck) + 1)]:List Int)).length),.aL 407 1 0 cP.length,.v (.int .i64 0),.v (.int .i64 0),.aL 410 1 0 0]),(401,.rows 1 (a8.map ah)),(402,.rows 6 (cD.map Cell.row)),(406,.rows 1 ((cO ++ ([aB a8 1 ((3 * ck) + 1)]:List Int)).map ah)),(407,.rows 1 (cP.map ah)),(410,.rows 1 (([]:List Int).map ah))]⟩) U ?_ ?_
 refine .blind 0 U au (ax.fieldAddr oW U U) ae (.blind 3 U au (ax.move U U) ae ?_)
 refine .blind 4 U au (ax.Tl U U om) ae (.blind 5 U au (ax.KY U U om) ae (.blind 6 U au (ax.wo sD wT U (by first | rfl | exact IntWalk.u8_in _ om)) ae (.yj ?_)))
 refine .two 1 2 U U au ?_ ?_
 refine .ld bt ?_
 refine .nil ⟨U,(.one 2 U au (.vl (Y.zb gm U U (aH U) U U) (.nil ⟨U,(.one 7 U au (.jF [401,402,406,407,410] jm (kv (n:=(⟨nB,a8,cD,bF,bS,br,cO,cP,0,0,([]:List Int)⟩:ab)) (w:=1) (k:=((3 * ck) + 1)) (by show (a8).length <= 1048576; omega) om) U (.agg (.aj U U (.cB U U (b7 bJ) (b8 bJ) (.cB U U (b7 bJ) (b8 bJ) (.aj U U (.aj U U (.aj U U (.cB U U (b7 bJ) (b8 bJ) (.cB U U (b7 bJ) (b8 bJ) (.aj U U (.aj U U (.cB U U (b7 bJ) (b8 bJ) .nil))))))))))) U (.aj U U (.aj U U .nil))) (eX U (bq aI) (eX U (bq Cell.bA) (eX U (bq aI) (eX U (bq aI) (kH U (bq aI)))))) ae U trivial ?_))⟩)))⟩
 refine .nil ⟨U,(.one 8 U au (.buildSlice (([aB a8 1 ((3 * ck) + 1)]:List Int).map ah) a7 dD U U U U U (aq (s:=1) (f:=ah) (fun _=>U)) U U U ae ?_))⟩
 refine .nil ⟨U,(.one 9 U au (.cL ah (cO ++ ([aB a8 1 ((3 * ck) + 1)]:List Int)) a7 dD U U U U (bg bJ) (aR bJ) (bz bJ) bJ bJ ae ae ?_))⟩
 refine .nil ⟨U,(.one 10 U au (.fa oW ?_))⟩
 refine .nil ⟨U,(.one 11 U au (.ai fJ U U U U U U (aH U) U ?_))⟩
 exact .nil ⟨U,(.done au (Le.mk (.c2 (.c (.c .nil))) (.c4 (.c2 (.c .nil)))))⟩
 refine .vl (Y.zb gm U U (aH U) U U) (.nil ⟨U,(.two 1 7 U U au ?_ ?_)⟩)
 refine .ld bt ?_
 refine .nil ⟨U,(.one 7 U au (.jF [401,402,406,407,410] jm (kv (n:=(⟨nB,a8,cD,bF,bS,br,cO,cP,0,0,([]:List Int)⟩:ab)) (w:=1) (k:=((3 * ck) + 1)) (by show (a8).length <= 1048576; omega) om) U (.agg (.aj U U (.cB U U (b7 bJ) (b8 bJ) (.cB U U (b7 bJ) (b8 bJ) (.aj U U (.aj U U (.aj U U (.cB U U (b7 bJ) (b8 bJ) (.cB U U (b7 bJ) (b8 bJ) (.aj U U (.aj U U (.cB U U (b7 bJ) (b8 bJ) .nil))))))))))) U (.aj U U (.aj U U .nil))) (eX U (bq aI) (eX U (bq Cell.bA) (eX U (bq aI) (eX U (bq aI) (kH U (bq aI)))))) ae U trivial ?_))⟩
 refine .nil ⟨U,(.one 8 U au (.buildSlice (([aB a8 1 ((3 * ck) + 1)]:List Int).map ah) a7 dD U U U U U (aq (s:=1) (f:=ah) (fun _=>U)) U U U ae ?_))⟩
 refine .nil ⟨U,(.one 9 U au (.cL ah (cO ++ ([aB a8 1 ((3 * ck) + 1)]:List Int)) a7 dD U U U U (bg bJ) (aR bJ) (bz bJ) bJ bJ ae ae ?_))⟩
 refine .nil ⟨U,(.one 10 U au (.fa oW ?_))⟩
 refine .nil ⟨U,(.one 11 U au (.ai fJ U U U U U U (aH U) U ?_))⟩
 exact .nil ⟨U,(.done au (Le.mk (.c2 (.c (.c .nil))) (.c4 (.c2 (.c .nil)))))⟩
 refine .jF [401,402,406,407,410] jm (kv (n:=(⟨nB,a8,cD,bF,bS,br,cO,cP,0,0,([]:List Int)⟩:ab)) (w:=1) (k:=((3 * ck) + 1)) (by show (a8).length <= 1048576; omega) om) U (.agg (.aj U U (.cB U U (b7 bJ) (b8 bJ) (.cB U U (b7 bJ) (b8 bJ) (.aj U U (.aj U U (.aj U U (.cB U U (b7 bJ) (b8 bJ) (.cB U U (b7 bJ) (b8 bJ) (.aj U U (.aj U U (.cB U U (b7 bJ) (b8 bJ) .nil))))))))))) U (.aj U U (.aj U U .nil))) (eX U (bq aI) (eX U (bq Cell.bA) (eX U (bq aI) (eX U (bq aI) (kH U (bq aI)))))) ae U trivial ?_
 refine .nil ⟨U,(.two 1 8 U U au ?_ ?_)⟩
 refine .ld bt ?_
 refine .nil ⟨U,(.one 8 U au (.buildSlice (([aB a8 1 ((3 * ck) + 1)]:List Int).map ah) a7 dD U U U U U (aq (s:=1) (f:=ah) (fun _=>U)) U U U ae ?_))⟩
 refine .nil ⟨U,(.one 9 U au (.cL ah (cO ++ ([aB a8 1 ((3 * ck) + 1)]:List Int)) a7 dD U U U U (bg bJ) (aR bJ) (bz bJ) bJ bJ ae ae ?_))⟩
 refine .nil ⟨U,(.one 10 U au (.fa oW ?_))⟩
 refine .nil ⟨U,(.one 11 U au (.ai fJ U U U U U U (aH U) U ?_))⟩
 exact .nil ⟨U,(.done au (Le.mk (.c2 (.c (.c .nil))) (.c4 (.c2 (.c .nil)))))⟩
 refine .buildSlice (([aB a8 1 ((3 * ck) + 1)]:List Int).map ah) a7 dD U U U U U (aq (s:=1) (f:=ah) (fun _=>U)) U U U ae ?_
 refine .nil ⟨U,(.one 1 U au (.ld bt ?_))⟩
 refine .nil ⟨U,(.one 9 U au (.cL ah (cO ++ ([aB a8 1 ((3 * ck) + 1)]:List Int)) a7 dD U U U U (bg bJ) (aR bJ) (bz bJ) bJ bJ ae ae ?_))⟩
 refine .nil ⟨U,(.one 10 U au (.fa oW ?_))⟩
 refine .nil ⟨U,(.one 11 U au (.ai fJ U U U U U U (aH U) U ?_))⟩
 exact .nil ⟨U,(.done au (Le.mk (.c2 (.c (.c .nil))) (.c4 (.c2 (.c .nil)))))⟩
 refine .le (aY:=⟨[(1,.fp (nL.row p) 0),(2,.ptr 102 0 0 0),(3,.ptr 103 0 0 0),(12,vi ck)],[(102,.cells [.v (.string ByteArray.empty),vn,vn,vn,vn,vn,vn,vn,vi 0,vi 0,vn]),(103,.cells [.v (.string nB),.aL 401 1 0 a8.length,.aL 402 6 0 cD.length,.fz 1 (bF.map ah),.fz 5 (bS.map eA.row),.fz 3 (br.map bE.row),.aL 406 1 0 ((cO ++ ([aB a8 1 ((3 * ck) + 1)]:List Int)).length),.aL 407 1 0 cP.length,vi 0,vi 0,.aL 410 1 0 0]),(401,.rows 1 (a8.map ah)),(402,.rows 6 (cD.map Cell.row)),(406,.rows 1 ((cO ++ ([aB a8 1 ((3 * ck) + 1)]:List Int)).map ah)),(407,.rows 1 (cP.map ah)),(410,.rows 1 (([]:List Int).map ah))]⟩) (Le.mk (.c2 (.c (.c .nil))) (.c4 (.c2 (.c .nil)))) (.sr ?_)
 refine .fa oX ?_
 refine .ld bt ?_
 refine .buildSlice (([-1]:List Int).map ah) a7 dD U U U U U (aq (s:=1) (f:=ah) (fun _=>U)) U U U ae ?_
 refine .cL ah (cP ++ ([-1]:List Int)) a7 dD U U U U (bg bJ) (aR bJ) (bz bJ) bJ bJ ae ae ?_
 refine .fa oX ?_
 refine .ai fJ U U U U U U (aH U) U (.nil ?_)
 refine .le (aY:=⟨[(1,.fp (nL.row p) 0),(2,.ptr 102 0 0 0),(3,.ptr 103 0 0 0),(12,vi ck)],[(102,.cells [.v (.string ByteArray.empty),vn,vn,vn,vn,vn,vn,vn,vi 0,vi 0,vn]),(103,.cells [.v (.string nB),.aL 401 1 0 a8.length,.aL 402 6 0 cD.length,.fz 1 (bF.map ah),.fz 5 (bS.map eA.row),.fz 3 (br.map bE.row),.aL 406 1 0 ((cO ++ ([aB a8 1 ((3 * ck) + 1)]:List Int)).length),.aL 407 1 0 ((cP ++ ([-1]:List Int)).length),vi 0,vi 0,.aL 410 1 0 0]),(401,.rows 1 (a8.map ah)),(402,.rows 6 (cD.map Cell.row)),(406,.rows 1 ((cO ++ ([aB a8 1 ((3 * ck) + 1)]:List Int)).map ah)),(407,.rows 1 ((cP ++ ([-1]:List Int)).map ah)),(410,.rows 1 (([]:List Int).map ah))]⟩) (Le.mk (.c2 (.c (.c .nil))) (.c4 (.c2 (.c .nil)))) (.sr ?_)
 refine .fa eS ?_
 refine .ld lT ?_
 refine .mv ?_
 refine .vl (Y.qs (m:=ck) jH U U bc (ao (d:=default) om)) (.fa k9 ?_)
 refine .ld Af ?_
 refine .nil (.cond U (fun VG=>?_) (fun VG=>?_))
 refine .g7 [103] [102,103,401,402,406,407,410] U (.blind 0 U au (ax.fieldAddr oX U U) ae (.load 1 U au bt U U U U U ae ?_))
 refine .blind 2 U au (ax.move U U) ae (.fe 3 U au gm U U U (aH U) U U ae (.blind 4 U au (ax.fieldAddr eS U U) ae ?_))
 refine .load 5 U au lT U U U U U ae (.blind 6 U au (ax.move U U) ae ?_)
 refine .blind 7 U au (ax.kj (m:=ck) jH U U bc (ao (d:=default) om)) ae ?_
 refine .blind 8 U au (ax.fieldAddr rK U U) ae (.load 9 U au bj U U U U U ae (.GZ U U (bZ.cells U U U bZ.nil) ?_))
 refine .one 10 U au (.jF [401,402,406,407,410] jm (kv (n:=(⟨nB,a8,cD,bF,bS,br,cO ++ ([aB a8 1 ((3 * ck) + 1)]:List Int),cP ++ ([-1]:List Int),0,0,([]:List Int)⟩:ab)) (w:=((br.getD ck default).width)) (k:=255) (by show (a8).length <= 1048576; omega) om) U (.agg (.aj U U (.cB U U (b7 bJ) (b8 bJ) (.cB U U (b7 bJ) (b8 bJ) (.aj U U (.aj U U (.aj U U (.cB U U (b7 bJ) (b8 bJ) (.cB U U (b7 bJ) (b8 bJ) (.aj U U (.aj U U (.cB U U (b7 bJ) (b8 bJ) .nil))))))))))) U (.aj U U (.aj U U .nil))) (eX U (bq aI) (eX U (bq Cell.bA) (eX U (bq aI) (eX U (bq aI) (kH U (bq aI)))))) ae U trivial ?_)
 refine .nil ⟨U,(.one 11 U au (.vl (Y.qt (m:=ck) a7 U U bc bJ) (.nil ⟨U,(.one 12 U au (.gU (((cP ++ ([-1]:List Int)).set ck (aB a8 ((br.getD ck default).width) 255)).map ah) dS U U U U U U U (aM (d:=0) bJ) (aH U) (e9 U) ?_))⟩)))⟩
 refine .nil ⟨U,(.done au (⟨(cP ++ ([-1]:List Int)).set ck (aB a8 ((br.getD ck default).width) 255),⟨bJ,by first | exact xZ DJ (di (Mo.ground.str (by show ck < br.length; omega)).1 _) ej | exact ya DJ (by simpa using ej)⟩,Le.mk (.c2 (.c (.c .nil))) (.c4 (.c2 (.c .nil)))⟩))⟩
 refine .skip (⟨cP ++ ([-1]:List Int),⟨om,by first | exact xZ DJ (di (Mo.ground.str (by show ck < br.length; omega)).1 _) ej | exact ya DJ (by simpa using ej)⟩,Le.mk (.c2 (.c (.c .nil))) (.c4 (.c2 (.c .nil)))⟩)
 obtain ⟨MV,QG⟩:=QF
 refine .region (.mv ?_)
 refine .vl (Y.qb U U om) (.an ?_)
 refine .nil (⟨ck + 1,cO ++ ([aB a8 1 ((3 * ck) + 1)]:List Int),nE,⟨om,by rw [List.length_append,tI]; rfl,QG.1,CM tI he (di Mo.ground.one _) QG⟩,om,Le.mk (.c2 (.c (.cons (ak U bc) .nil))) (.c (.cons (ay U eR) (.c4 (.c .nil))))⟩)
 refine .exit (.seq (.sr (.an (.nil (.block ?_)))))
 refine .iD (fun (fC:Nat) (fG:List Int)=>⟨[(1,.fp (nL.row p) 0),(2,.ptr 102 0 0 0),(3,.ptr 103 0 0 0),(13,vi fC)],[(102,.cells [.v (.string ByteArray.empty),vn,vn,vn,vn,vn,vn,vn,vi 0,vi 0,vn]),(103,.cells [.v (.string nB),.aL 401 1 0 a8.length,.aL 402 6 0 cD.length,.fz 1 (bF.map ah),.fz 5 (bS.map eA.row),.fz 3 (br.map bE.row),.aL 406 1 0 cO.length,.aL 407 1 0 cP.length,vi 0,vi 0,.aL 410 1 0 fG.length]),(401,.rows 1 (a8.map ah)),(402,.rows 6 (cD.map Cell.row)),(406,.rows 1 (cO.map ah)),(407,.rows 1 (cP.map ah)),(410,.rows 1 (fG.map ah))]⟩) (fun fC fG=>((fC:Int) <= (p.cM.length:Int)) /\ (∀ m ∈ fG,In m a8.length) /\ (fG.length = fC)) (fun fC fG=>((p.cM.length:Int) - (fC:Int)).toNat) 0 ([]:List Int) (⟨om,fun m h=>(by cases h),U⟩) (Le.mk (.c2 (.c (.cons (ak U bc) .nil))) (.c (.cons (ay U eR) (.c4 (.c .nil))))) (fun fC fG VH=>?_)
 obtain ⟨ZS,hr,Kv⟩:=VH
 refine .seq (.sr (.mv ?_))
 refine .fa Ai ?_
 refine .ld CN ?_
 refine .vl (Y.qx (n:=p.cM.length) CO U fV) (.vl (Y.zc U U) (.nil (.aA U (fun VJ=>?_) (fun VJ=>?_))))
 refine .skip (.seq (.block ?_))
 have VB:=hk.cM (p.cM.getD fC 0) (getD_in om)
 refine .dW (⟨[(1,.fp (nL.row p) 0),(2,.ptr 102 0 0 0),(3,.ptr 103 0 0 0),(13,.v (.int .i64 (fC:Int)))],[(102,.cells [.v (.string ByteArray.empty),vn,vn,vn,vn,vn,vn,vn,.v (.int .i64 0),.v (.int .i64 0),vn]),(103,.cells [.v (.string nB),.aL 401 1 0 a8.length,.aL 402 6 0 cD.length,.fz 1 (bF.map ah),.fz 5 (bS.map eA.row),.fz 3 (br.map bE.row),.aL 406 1 0 cO.length,.aL 407 1 0 cP.length,.v (.int .i64 0),.v (.int .i64 0),.aL 410 1 0 ((fG ++ ([((p.cM.getD fC 0:Nat):Int) % (a8.length:Int)]:List Int)).length)]),(401,.rows 1 (a8.map ah)),(402,.rows 6 (cD.map Cell.row)),(406,.rows 1 (cO.map ah)),(407,.rows 1 (cP.map ah)),(410,.rows 1 ((fG ++ ([((p.cM.getD fC 0:Nat):Int) % (a8.length:Int)]:List Int)).map ah))]⟩) U ?_ ?_
 refine .blind 0 U au (ax.fieldAddr pC U U) ae (.blind 2 U au (ax.fieldAddr Ai U U) ae (.load 3 U au CN U U U U U ae ?_))
 refine .blind 4 U au (ax.move U U) ae (.blind 5 U au (ax.kj (m:=fC) CO U U bc (ao (d:=0) om)) ae (.load 6 U au tl U U U U U ae (.blind 7 U au (ax.wo wT sD U zT) ae ?_)))
 refine .blind 8 U au (ax.fieldAddr bO U U) ae (.yj ?_)
 refine .two 1 9 U U au ?_ ?_
 refine .ld bt ?_
 refine .nil ⟨U,(.one 9 U au (.ld bt ?_))⟩
 refine .nil ⟨U,(.one 10 U au (.vl (Y.qx (n:=a8.length) a7 U U) (.nil ⟨U,(.one 11 U au (.vl (Y.zt U U om) (.nil ⟨U,(.one 12 U au (.buildSlice (([((p.cM.getD fC 0:Nat):Int) % (a8.length:Int)]:List Int).map ah) a7 dD U U U U U (aq (s:=1) (f:=ah) (fun _=>U)) U U U ae ?_))⟩)))⟩)))⟩
 refine .nil ⟨U,(.one 13 U au (.cL ah (fG ++ ([((p.cM.getD fC 0:Nat):Int) % (a8.length:Int)]:List Int)) a7 dD U U U U (bg bJ) (aR bJ) (bz bJ) bJ bJ ae ae ?_))⟩
 refine .nil ⟨U,(.one 14 U au (.fa pC ?_))⟩
 refine .nil ⟨U,(.one 15 U au (.ai fJ U U U U U U (aH U) U ?_))⟩
 exact .nil ⟨U,(.done au (Le.mk (.c2 (.c (.c .nil))) (.c4 (.c2 (.c .nil)))))⟩
 refine .ld bt ?_
 refine .nil ⟨U,(.two 1 10 U U au ?_ ?_)⟩
 refine .ld bt ?_
 refine .nil ⟨U,(.one 10 U au (.vl (Y.qx (n:=a8.length) a7 U U) (.nil ⟨U,(.one 11 U au (.vl (Y.zt U U om) (.nil ⟨U,(.one 12 U au (.buildSlice (([((p.cM.getD fC 0:Nat):Int) % (a8.length:Int)]:List Int).map ah) a7 dD U U U U U (aq (s:=1) (f:=ah) (fun _=>U)) U U U ae ?_))⟩)))⟩)))⟩
 refine .nil ⟨U,(.one 13 U au (.cL ah (fG ++ ([((p.cM.getD fC 0:Nat):Int) % (a8.length:Int)]:List Int)) a7 dD U U U U (bg bJ) (aR bJ) (bz bJ) bJ bJ ae ae ?_))⟩
 refine .nil ⟨U,(.one 14 U au (.fa pC ?_))⟩
 refine .nil ⟨U,(.one 15 U au (.ai fJ U U U U U U (aH U) U ?_))⟩
 exact .nil ⟨U,(.done au (Le.mk (.c2 (.c (.c .nil))) (.c4 (.c2 (.c .nil)))))⟩
 refine .vl (Y.qx (n:=a8.length) a7 U U) (.nil ⟨U,(.blind 11 U au (ax.EZ U U om) ae ?_)⟩)
 refine .two 1 12 U U au ?_ ?_
 refine .ld bt ?_
 refine .nil ⟨U,(.one 12 U au (.buildSlice (([((p.cM.getD fC 0:Nat):Int) % (a8.length:Int)]:List Int).map ah) a7 dD U U U U U (aq (s:=1) (f:=ah) (fun _=>U)) U U U ae ?_))⟩
 refine .nil ⟨U,(.one 13 U au (.cL ah (fG ++ ([((p.cM.getD fC 0:Nat):Int) % (a8.length:Int)]:List Int)) a7 dD U U U U (bg bJ) (aR bJ) (bz bJ) bJ bJ ae ae ?_))⟩
 refine .nil ⟨U,(.one 14 U au (.fa pC ?_))⟩
 refine .nil ⟨U,(.one 15 U au (.ai fJ U U U U U U (aH U) U ?_))⟩
 exact .nil ⟨U,(.done au (Le.mk (.c2 (.c (.c .nil))) (.c4 (.c2 (.c .nil)))))⟩
 refine .buildSlice (([((p.cM.getD fC 0:Nat):Int) % (a8.length:Int)]:List Int).map ah) a7 dD U U U U U (aq (s:=1) (f:=ah) (fun _=>U)) U U U ae ?_
 refine .nil ⟨U,(.one 1 U au (.ld bt ?_))⟩
 refine .nil ⟨U,(.one 13 U au (.cL ah (fG ++ ([((p.cM.getD fC 0:Nat):Int) % (a8.length:Int)]:List Int)) a7 dD U U U U (bg bJ) (aR bJ) (bz bJ) bJ bJ ae ae ?_))⟩
 refine .nil ⟨U,(.one 14 U au (.fa pC ?_))⟩
 refine .nil ⟨U,(.one 15 U au (.ai fJ U U U U U U (aH U) U ?_))⟩
 exact .nil ⟨U,(.done au (Le.mk (.c2 (.c (.c .nil))) (.c4 (.c2 (.c .nil)))))⟩
 refine .region (.mv ?_)
 refine .vl (Y.qb U U om) (.an ?_)
 refine .nil (⟨fC + 1,fG ++ ([((p.cM.getD fC 0:Nat):Int) % (a8.length:Int)]:List Int),⟨om,tX hr (wR (n:=pn a8 cD bF bS br) Mo.ground (by show 0 < a8.length; omega)),by rw [List.length_append,Kv]; rfl⟩,om,Le.mk (.c2 (.c (.cons (ak U bc) .nil))) (.c (.cons (ay U eR) (.c4 (.c .nil))))⟩)
 refine .exit (.sr (.vl (Y.zb gm U U (aH U) U U) (.fa qO ?_)))
 refine .ld Aj ?_
 refine .vl (Y.qx (n:=p.parts.length) Ak U fV) (.vl (Y.qk sD wT U (by first | rfl | exact IntWalk.u8_in _ om)) (.jF [401,402,406,407,410] jm (kv (n:=(⟨nB,a8,cD,bF,bS,br,cO,cP,0,0,fG⟩:ab)) (w:=1) (k:=p.parts.length) (by show (a8).length <= 1048576; omega) om) U (.agg (.aj U U (.cB U U (b7 om) (b8 om) (.cB U U (b7 om) (b8 om) (.aj U U (.aj U U (.aj U U (.cB U U (b7 om) (b8 om) (.cB U U (b7 om) (b8 om) (.aj U U (.aj U U (.cB U U (b7 om) (b8 om) .nil))))))))))) U (.aj U U (.aj U U .nil))) (eX U (bq aI) (eX U (bq Cell.bA) (eX U (bq aI) (eX U (bq aI) (kH U (bq aI)))))) ae U trivial ?_))
 refine .fa sC ?_
 refine .ai dS U U U U U U (aH U) U (.nil (.sr (.vl (Y.zb gm U U (aH U) U U) (.fa qO ?_))))
 refine .ld Aj ?_
 refine .vl (Y.qx (n:=p.parts.length) Ak U fV) (.vl (Y.zj U U om) (.vl (Y.qb U U om) (.vl (Y.qj sD wT U (yk ((7 * p.parts.length) + 1))) (.jF [401,402,406,407,410] jm (kv (n:=(⟨nB,a8,cD,bF,bS,br,cO,cP,aB a8 1 p.parts.length,0,fG⟩:ab)) (w:=1) (k:=(((7 * p.parts.length) + 1) % 256)) (by show (a8).length <= 1048576; omega) om) U (.agg (.aj U U (.cB U U (b7 om) (b8 om) (.cB U U (b7 om) (b8 om) (.aj U U (.aj U U (.aj U U (.cB U U (b7 om) (b8 om) (.cB U U (b7 om) (b8 om) (.aj U U (.aj U U (.cB U U (b7 om) (b8 om) .nil))))))))))) U (.aj U U (.aj U U .nil))) (eX U (bq aI) (eX U (bq Cell.bA) (eX U (bq aI) (eX U (bq aI) (kH U (bq aI)))))) ae U trivial ?_))))
 refine .fa wS ?_
 refine .ai dS U U U U U U (aH U) U (.nil (.seq (.sh (Sh.rY 103 406 6 U U U (aU om) (cC.map aI) ae U U U) (.sh (Sh.rY 103 407 7 U U U (aU om) (cC.map aI) ae U U U) (.sh (Sh.rY 103 410 10 U U U (aU om) (cC.map aI) ae U U U) (.region (.vl (Y.zb gm U U (aH U) U U) (.ai KW U U U U U U (aH U) U ?_))))))))
 exact .nil (.ret (⟨_,U,_,_,_,(Sh.Pa (d:=0) 1 401 U U U sm U ae).then (Sh.Pa (d:=0) 2 402 U U U sm U ae),U,U,(⟨nB,a8,cD,bF,bS,br,cO,cP,aB a8 1 p.parts.length,aB a8 1 (((7 * p.parts.length) + 1) % 256),fG⟩:ab),(Mo.made om om om om om om (fun m h=>(hm m h).1) (fun m h=>(hs m h).1) om om (fun j hj=>he j om) hr (di Mo.ground.one _) (di Mo.ground.one _)),U,U⟩))
open Go Go.AW Go.Proofs
theorem GK{p:nL}:aw Try.prog 46 [.agg (nL.row p)] [] [] (fun r o=>r = .v (.bool (decide (p.Rm))) /\ o = []):=by
 refine aw.of Try.func46 U U U (n:=31) ae (aH U) (.sr (.box 101 U U U U U ae ?_))
 refine .an (.nil (.sr ?_))
 refine .fa wU ?_
 refine .ld yd ?_
 refine .vl (Y.qx (n:=p.aD.length) ye U fV) (.vl (Y.qz U U) (.mv ?_))
 refine .aC (d:=7) U (fun c7=>?_) (fun c7=>?_)
 refine .gw 7 (Y.qp wV U U) (.gw 7 (Y.za yd U U U U) (.gw 7 (Y.qx (n:=p.streams.length) ye U fV) (.gw 7 (Y.qz U U) (.pk ?_))))
 refine .mv ?_
 refine .aC (d:=13) U (fun xy=>?_) (fun xy=>?_)
 refine .gw 13 (Y.qp Ah U U) (.gw 13 (Y.za CN U U U U) (.gw 13 (Y.qx (n:=p.ins.length) CO U fV) (.gw 13 (Y.qz U U) (.pk ?_))))
 refine .mv ?_
 refine .aC (d:=19) U (fun vD=>?_) (fun vD=>?_)
 refine .gw 19 (Y.qp qO U U) (.gw 19 (Y.za Aj U U U U) (.gw 19 (Y.qx (n:=p.parts.length) Ak U fV) (.gw 19 (Y.qz U U) (.pk ?_))))
 refine .mv ?_
 refine .aC (d:=25) U (fun L9=>?_) (fun L9=>?_)
 refine .gw 25 (Y.qp Ai U U) (.gw 25 (Y.za CN U U U U) (.gw 25 (Y.qx (n:=p.cM.length) CO U fV) (.gw 25 (Y.qz U U) (.pk ?_))))
 refine .an (.nil (.ret ?_))
 exact .rb rfl (dd ⟨fun h=>⟨om,om,om,om,om⟩,fun h=>by have h5:=h.cM; omega⟩)
 refine .gz 25 (.gz 25 (.gz 25 (.gz 25 (.pk ?_))))
 refine .an (.nil (.ret ?_))
 exact .rb rfl (df (fun h=>by have h1:=h.aD; have h2:=h.streams; have h3:=h.ins; have h4:=h.parts; have h5:=h.cM; omega))
 refine .gz 19 (.gz 19 (.gz 19 (.gz 19 (.pk ?_))))
 refine .mv ?_
 refine .gz 25 (.gz 25 (.gz 25 (.gz 25 (.pk ?_))))
 refine .an (.nil (.ret ?_))
 exact .rb rfl (df (fun h=>by have h1:=h.aD; have h2:=h.streams; have h3:=h.ins; have h4:=h.parts; have h5:=h.cM; omega))
 refine .gz 13 (.gz 13 (.gz 13 (.gz 13 (.pk ?_))))
 refine .mv ?_
 refine .gz 19 (.gz 19 (.gz 19 (.gz 19 (.pk ?_))))
 refine .mv ?_
 refine .gz 25 (.gz 25 (.gz 25 (.gz 25 (.pk ?_))))
 refine .an (.nil (.ret ?_))
 exact .rb rfl (df (fun h=>by have h1:=h.aD; have h2:=h.streams; have h3:=h.ins; have h4:=h.parts; have h5:=h.cM; omega))
 refine .gz 7 (.gz 7 (.gz 7 (.gz 7 (.pk ?_))))
 refine .mv ?_
 refine .gz 13 (.gz 13 (.gz 13 (.gz 13 (.pk ?_))))
 refine .mv ?_
 refine .gz 19 (.gz 19 (.gz 19 (.gz 19 (.pk ?_))))
 refine .mv ?_
 refine .gz 25 (.gz 25 (.gz 25 (.gz 25 (.pk ?_))))
 refine .an (.nil (.ret ?_))
 exact .rb rfl (df (fun h=>by have h1:=h.aD; have h2:=h.streams; have h3:=h.ins; have h4:=h.parts; have h5:=h.cM; omega))
open Go Go.AW Go.Proofs
def QH(n:ab)(at_:List Int)(y x:Int):Prop:=∃ i,bH n i y /\ bR (n.cell i).kind /\ x ∈ (n.cell i).args /\ at_.getD y.toNat 0 = at_.getD x.toNat 0 + l4 n (n.cell i)
def VK(n:ab)(at_:List Int)(y:Int):Prop:=∃ i,bH n i y /\ at_.getD y.toNat 0 = l4 n (n.cell i) /\ (¬ bR (n.cell i).kind \/ (n.cell i).kind = 1)
structure PP(n:ab)(l at_:List Int)(w0:Int)(st:List Int)(last:Int):Prop where
 rk:0 <= last -> ∀ i,bH n i last -> st.length + l.idxOf i + 1 <= n.cells.length
 len:st.length <= n.cells.length
 Mp:0 <= last -> In last n.aa.length
 Dt:∀ j,j < st.length -> In (st.getD j 0) n.aa.length
 link:∀ j,j + 1 < st.length -> QH n at_ (st.getD j 0) (st.getD (j + 1) 0)
 VL:0 <= last -> 0 < st.length -> QH n at_ (st.getD (st.length - 1) 0) last
 end_:last < 0 -> 0 < st.length /\ VK n at_ (st.getD (st.length - 1) 0)
 fst:(0 < st.length -> st.getD 0 0 = w0) /\ (st.length = 0 -> last = w0)
def vt(at_ l:List Int)(last:Int):Prop:=(l = [] /\ last = -1) \/ (last ∈ l /\ ∀ x ∈ l,at_.getD x.toNat 0 <= at_.getD last.toNat 0)
theorem vt.nil{at_ l:List Int}:vt at_ (l.take 0) (-1):=.inl ⟨by simp,rfl⟩
theorem vt.step{at_ l:List Int}{k:Nat}{last:Int}(h:vt at_ (l.take k) last)(hk:k < l.length)(h0:∀ x ∈ l,0 <= x)(hc:last < 0 \/ at_.getD (l.getD k 0).toNat 0 > at_.getD last.toNat 0):vt at_ (l.take (k + 1)) (l.getD k 0):=by
 rw [take_one (d:=(0:Int)) hk]
 refine .inr ⟨by simp,fun x hx=>?_⟩
 rcases List.mem_append.1 hx with hx | hx
 ·rcases h with ⟨h1,_⟩ | ⟨h1,h2⟩
  ·rw [h1] at hx; cases hx
  ·have:=h2 x hx
   rcases hc with hc | hc
   ·have:=h0 last (List.mem_of_mem_take h1); omega
   ·omega
 ·rw [List.mem_singleton.1 hx]; exact Int.le_refl _
theorem vt.aj{at_ l:List Int}{k:Nat}{last:Int}(h:vt at_ (l.take k) last)(hk:k < l.length)(hc:¬ (last < 0 \/ at_.getD (l.getD k 0).toNat 0 > at_.getD last.toNat 0)):vt at_ (l.take (k + 1)) last:=by
 rw [take_one (d:=(0:Int)) hk]
 rcases h with ⟨h1,h2⟩ | ⟨h1,h2⟩
 ·omega
 ·refine .inr ⟨List.mem_append.2 (.inl h1),fun x hx=>?_⟩
  rcases List.mem_append.1 hx with hx | hx
  ·exact h2 x hx
  ·rw [List.mem_singleton.1 hx]; omega
theorem vt.Mp{at_ l:List Int}{k:Nat}{last:Int}(h:vt at_ (l.take k) last)(h0:0 <= last):last ∈ l:=by
 rcases h with ⟨_,h2⟩ | ⟨h1,_⟩
 ·omega
 ·exact List.mem_of_mem_take h1
theorem nG{st:List Int}{x:Int}{j:Nat}(h:j < st.length):(st ++ [x]).getD j 0 = st.getD j 0:=by
 rw [List.getD_eq_getElem?_getD,List.getElem?_append_left h,List.getD_eq_getElem?_getD]
theorem sW{st:List Int}{x:Int}:(st ++ [x]).getD st.length 0 = x:=by
 rw [List.getD_eq_getElem?_getD,List.getElem?_append_right (Nat.le_refl _),Nat.sub_self]; rfl
section
variable {n:ab} {l at_ st:List Int} {w0 last:Int}
theorem PP.init(hf:bh n)(ho:Ord n l)(hw:In w0 n.aa.length):PP n l at_ w0 [] w0 where
 rk:=fun _ i hd=>by
  have h1:=List.idxOf_lt_length_of_mem (ho.mem hd.1)
  have h2:=ho.len
  simp only [List.length_nil]; omega
 len:=by simp
 Mp:=fun _=>hw
 Dt:=fun j h=>by simp at h
 link:=fun j h=>by simp at h
 VL:=fun _ h=>by simp at h
 end_:=fun h=>by unfold In at hw; omega
 fst:=⟨fun h=>by simp at h,fun _=>rfl⟩
theorem PP.more(h : PP n l at_ w0 st last)(h0 : 0 ≤ last) : (∀ j, j < (st ++ [last]).length → In ((st ++ [last]).getD j 0) n.aa.length) ∧ (∀ j, j + 1 < (st ++ [last]).length → QH n at_ ((st ++ [last]).getD j 0) ((st ++ [last]).getD (j + 1) 0)) ∧
  (st ++ [last]).getD ((st ++ [last]).length - 1) 0 = last /\ (st ++ [last]).getD 0 0 = w0:=by
 have hl:(st ++ [last]).length = st.length + 1:=by simp
 refine ⟨fun j hj=>?_,fun j hj=>?_,?_,?_⟩
 ·rcases Nat.lt_or_ge j st.length with h1 | h1
  ·rw [nG h1]; exact h.Dt j h1
  ·obtain rfl:j = st.length:=by omega
   rw [sW]; exact h.Mp h0
 ·rcases Nat.lt_or_ge (j + 1) st.length with h1 | h1
  ·rw [nG h1,nG om]; exact h.link j h1
  ·have e:j + 1 = st.length:=by omega
   rw [e,sW,nG om,show j = st.length - 1 by omega]
   exact h.VL h0 om
 ·rw [hl,Nat.add_sub_cancel,sW]
 ·rcases Nat.eq_zero_or_pos st.length with h1 | h1
  ·have:st = []:=List.eq_nil_of_length_eq_zero h1
   subst this
   exact h.fst.2 rfl
  ·rw [nG h1]; exact h.fst.1 h1
theorem PP.lt(hf:bh n)(h:PP n l at_ w0 st last)(h0:0 <= last):st.length + 1 <= n.cells.length:=by
 obtain ⟨i,hi⟩:=hf.kg (h.Mp h0)
 have:=h.rk h0 i hi
 omega
structure PD(n:ab)(at_:List Int)(w0:Int)(st:List Int):Prop where
 pos:0 < st.length
 len:st.length <= n.cells.length
 Dt:∀ j,j < st.length -> In (st.getD j 0) n.aa.length
 link:∀ j,j + 1 < st.length -> QH n at_ (st.getD j 0) (st.getD (j + 1) 0)
 root:VK n at_ (st.getD (st.length - 1) 0)
 fst:st.getD 0 0 = w0
theorem PP.done(h:PP n l at_ w0 st last)(h0:last < 0):PD n at_ w0 st :=
 ⟨(h.end_ h0).1,h.len,h.Dt,h.link,(h.end_ h0).2,h.fst.1 (h.end_ h0).1⟩
theorem PP.go(hf : bh n)(ho : Ord n l)(ha : tz n at_)(ZT : ∀ w, In w n.aa.length → 0 ≤ at_.getD w.toNat 0){cs : List Cell}(hc : LQ n cs)(h : PP n l at_ w0 st last)(h0 : 0 ≤ last)(hk : bR (cs.getD last.toNat default).kind){k : Nat}{nl : Int}(DY : k = (cs.getD last.toNat default).args.length)
  (hb:vt at_ ((cs.getD last.toNat default).args.take k) nl):PP n l at_ w0 (st ++ [last]) nl:=by
 obtain ⟨h1,h2,h3,h4⟩:=h.more h0
 obtain ⟨i,hi⟩:=hf.kg (h.Mp h0)
 rw [hc.at_ i last hi] at hk DY hb
 rw [DY,List.take_length] at hb
 have gQ:=h.rk h0 i hi
 have hl:(st ++ [last]).length = st.length + 1:=by simp
 have ry:at_.getD last.toNat 0 = gE at_ (n.cell i).args + l4 n (n.cell i):=by
  rw [ha.eq i last hi]; unfold jV; rw [if_pos hk]
 have tG:0 <= nl -> nl ∈ (n.cell i).args:=fun h5=>by
  rcases hb with ⟨_,h6⟩ | ⟨h6,_⟩
  ·omega
  ·exact h6
 exact {
  rk:=fun h5 j hj=>by
   obtain ⟨j',r8,ZU⟩:=ho.lt hi.1 hk (tG h5)
   rw [hf.unique hj r8,hl]; omega
  len:=by rw [hl]; omega
  Mp:=fun h5=>hf.kJ hi.1 (tG h5)
  Dt:=h1
  link:=h2
  VL:=fun h5 _=>by
   rw [h3]
   refine ⟨i,hi,hk,tG h5,?_⟩
   rw [ry]
   rcases hb with ⟨_,h6⟩ | ⟨h6,h7⟩
   ·omega
   ·have h8:=xj (at_:=at_) h6
    have h9:=(l9 (at_:=at_) (l:=(n.cell i).args) (B:=at_.getD nl.toNat 0) (ZT nl (hf.kJ hi.1 h6)) h7).2
    omega
  end_:=fun h5=>by
   refine ⟨by rw [hl]; omega,?_⟩
   rw [h3]
   rcases hb with ⟨h6,_⟩ | ⟨h6,_⟩
   ·refine ⟨i,hi,?_,.inr ?_⟩
    ·rw [ry,h6]; simp [gE]
    ·have kW:=(hf.cellAt hi.1).2.1
     have hlen:(n.cell i).args.length = 0:=by rw [h6]; rfl
     unfold Shaped at kW
     unfold bR at hk
     rcases kW with hx | ⟨hx,hy,hz,_⟩ | hx | hx | hx | hx | hx | hx | hx | hx
     ·exact hx.1
     ·rw [hlen] at hz; exact absurd hz.symm hy
     all_goals omega
   ·have:=(hf.kJ hi.1 h6).1; omega
  fst:=⟨fun _=>h4,fun h5=>by rw [hl] at h5; omega⟩ }
end
open Go Go.AW Go.Proofs
structure GL(n:ab)(at_ st:List Int)(d:Int):Prop where
 pos:0 < st.length
 len:st.length <= n.cells.length
 Dt:∀ j,j < st.length -> In (st.getD j 0) n.aa.length
 link:∀ j,j + 1 < st.length -> QH n at_ (st.getD (j + 1) 0) (st.getD j 0)
 root:VK n at_ (st.getD 0 0)
 end_:∃ a,(st.getD (st.length - 1) 0,a) ∈ tO n /\ d = at_.getD (st.getD (st.length - 1) 0).toNat 0 + a
 max:∀ e ∈ tO n,at_.getD e.1.toNat 0 + e.2 <= d
section
variable {n:ab} {l at_ st:List Int} {w0 last d a:Int} {cs:List Cell}
theorem PP.args(hf:bh n)(hc:LQ n cs)(h:PP n l at_ w0 st last)(h0:0 <= last):∀ x ∈ (cs.getD last.toNat default).args,In x n.aa.length:=by
 obtain ⟨i,hi⟩:=hf.kg (h.Mp h0)
 rw [hc.at_ i last hi]
 exact fun x hx=>hf.kJ hi.1 hx
end
open Go Go.AW Go.Proofs
structure vu(x:Int)(k p:Nat):Prop where
 p:p = 2 ^ k
 lt:k = 0 \/ 2 ^ (k - 1) < x.toNat
theorem vu.init{x:Int}:vu x 0 1:=⟨rfl,.inl rfl⟩
theorem vu.step{x:Int}{k p:Nat}(h:vu x k p)(hx:(p:Int) < x):vu x (k + 1) (2 * p):=by
 have h1:=h.p
 refine ⟨by rw [Nat.pow_succ,h1]; omega,.inr ?_⟩
 rw [Nat.add_sub_cancel]; omega
theorem vu.le{x:Int}{k p:Nat}(h:vu x k p)(hx:x <= 256):k <= 8 /\ 1 <= p /\ p <= 256:=by
 have hk:k <= 8:=by
  rcases h.lt with h1 | h1
  ·omega
  ·rcases Nat.lt_or_ge k 9 with h2 | h2
   ·omega
   ·have:2 ^ 8 <= 2 ^ (k - 1):=Nat.pow_le_pow_right om om
    omega
 have h1:2 ^ k <= 2 ^ 8:=Nat.pow_le_pow_right om hk
 have h2:1 <= 2 ^ k:=Nat.one_le_two_pow
 have h3:=h.p
 refine ⟨hk,om,om⟩
theorem vu.done{x:Int}{k p:Nat}(h:vu x k p)(h0:0 <= x)(hx:¬ (p:Int) < x):k = cF x.toNat:=by
 have h1:=h.p
 refine (Fm om ?_).symm
 exact h.lt
open Go Go.AW Go.Proofs
section
variable {n:ab} {x:Int}
end
open Go Go.AW Go.Proofs
def kn(known:List Bool)(w:Int):Bool:=known.getD w.toNat false
structure RA(n:ab)(out:List Int)(known:List Bool):Prop where
 ol:out.length = n.aa.length
 kl:known.length = n.aa.length
 fin:∀ i w,bH n i w -> kn known w = true -> out.getD w.toNat 0 = jV n out (n.cell i) /\ (bR (n.cell i).kind -> ∀ x ∈ (n.cell i).args,kn known x = true)
structure RS(n:ab)(k:Nat)(out:List Int)(known:List Bool):Prop where
 ra:RA n out known
 iff:∀ i w,bH n i w -> (kn known w = true ↔ i < k /\ ¬ bR (n.cell i).kind)
section
variable {n:ab} {out:List Int} {known:List Bool} {k:Nat}
theorem GM{b:Bool}{o w:Int}(ho:0 <= o)(hw:0 <= w)(hl:o.toNat < known.length):kn (known.set o.toNat b) w = if o = w then b else kn known w:=by
 unfold kn
 rw [bx]
 by_cases e:o = w
 ·rw [if_pos e,if_pos ⟨om,hl⟩]
 ·rw [if_neg e,if_neg om]
theorem xt{v o w:Int}(ho:0 <= o)(hw:0 <= w)(hl:o.toNat < out.length):(out.set o.toNat v).getD w.toNat 0 = if o = w then v else out.getD w.toNat 0:=by
 rw [bx]
 by_cases e:o = w
 ·rw [if_pos e,if_pos ⟨om,hl⟩]
 ·rw [if_neg e,if_neg om]
theorem RS.init:RS n 0 (List.replicate n.aa.length 0) (List.replicate n.aa.length false) where
 ra:=⟨by simp,by simp,fun i w _ h=>by unfold kn at h; rw [nt] at h; cases h⟩
 iff:=fun i w hd=>by
  unfold kn
  rw [nt]
  have:=hd.1
  constructor
  ·intro h; cases h
  ·intro h; omega
theorem RS.set(hf : bh n)(h : RS n k out known)(hk : k < n.cells.length)(h0 : (n.cells.getD k default).out ≥ 0)(hc : ¬ bR (n.cells.getD k default).kind) :
  RS n (k + 1) (out.set (n.cells.getD k default).out.toNat (l4 n (n.cells.getD k default))) (known.set (n.cells.getD k default).out.toNat true):=by
 have h7:(n.cells.getD k default).kind ≠ 7:=fun e=>by have:=(hf.cells k hk).2.2.1 e; omega
 have wY:bH n (k:Int) (n.cells.getD k default).out:=⟨⟨om,om⟩,h7,rfl⟩
 have BR:=hf.fS wY
 unfold In at BR
 have h1:=h.ra.ol; have h2:=h.ra.kl
 have Mq:∀ i w,bH n i w -> (kn (known.set (n.cells.getD k default).out.toNat true) w = true ↔ i < (k + 1:Nat) /\ ¬ bR (n.cell i).kind):=fun i w hd=>by
  have hw:=hf.fS hd
  unfold In at hw
  rw [GM BR.1 hw.1 om]
  by_cases e:(n.cells.getD k default).out = w
  ·rw [if_pos e]
   rw [e] at wY
   have:=hf.unique hd wY
   subst this
   exact ⟨fun _=>⟨om,hc⟩,fun _=>rfl⟩
  ·rw [if_neg e,h.iff i w hd]
   have fH:i ≠ k:=fun e2=>by subst e2; exact e hd.2.2
   constructor
   ·exact fun h=>⟨om,h.2⟩
   ·exact fun h=>⟨om,h.2⟩
 refine ⟨⟨by rw [List.length_set]; exact h1,by rw [List.length_set]; exact h2,fun i w hd MW=>?_⟩,Mq⟩
 have Hk:=((Mq i w hd).1 MW).2
 refine ⟨?_,fun hc=>absurd hc Hk⟩
 have hw:=hf.fS hd
 unfold In at hw
 have ry:∀ o:List Int,jV n o (n.cell i) = 0 + l4 n (n.cell i):=fun o=>by unfold jV; rw [if_neg Hk]
 rw [xt BR.1 hw.1 om,ry]
 by_cases e:(n.cells.getD k default).out = w
 ·rw [if_pos e]
  rw [e] at wY
  have:=hf.unique hd wY
  subst this
  show l4 n (n.cell k) = _
  omega
 ·rw [if_neg e]
  have fH:i ≠ k:=fun e2=>by subst e2; exact e hd.2.2
  have h3:=(h.ra.fin i w hd ((h.iff i w hd).2 ⟨by have:=((Mq i w hd).1 MW).1; omega,Hk⟩)).1
  rw [h3,ry]
theorem RS.skip(hf:bh n)(h:RS n k out known)(hk:k < n.cells.length)(hc:¬ ((n.cells.getD k default).out ≥ 0 /\ ¬ bR (n.cells.getD k default).kind)):RS n (k + 1) out known:=by
 refine ⟨h.ra,fun i w hd=>?_⟩
 rw [h.iff i w hd]
 have hw:=hf.fS hd
 unfold In at hw
 constructor
 ·exact fun h=>⟨om,h.2⟩
 ·rintro ⟨h1,h2⟩
  refine ⟨?_,h2⟩
  rcases Int.lt_or_eq_of_le (show i <= k by omega) with h3 | h3
  ·exact h3
  ·subst h3
   refine absurd ⟨?_,h2⟩ hc
   have:(n.cells.getD k default).out = w:=hd.2.2
   omega
structure RR(n:ab)(rm:List Bool)(i:Nat)(more:Bool)(out:List Int)(known:List Bool):Prop where
 ra:RA n out known
 src:∀ i w,bH n i w -> ¬ bR (n.cell i).kind -> kn known w = true
 pr:more = false -> ∀ j w,bH n j w -> j < i -> bR (n.cell j).kind -> kn known w = false -> ∃ x ∈ (n.cell j).args,kn known x = false
 Oc:ia known + (if more then 1 else 0) <= ia rm
theorem RR.init(ha:RA n out known)(hs:∀ i w,bH n i w -> ¬ bR (n.cell i).kind -> kn known w = true):RR n known 0 false out known :=
 ⟨ha,hs,fun _ j w hd h=>by have:=hd.1; omega,by simp⟩
variable {rm:List Bool} {more:Bool}
theorem RR.pass(hf:bh n)(h:RR n rm k more out known)(hk:k < n.cells.length)(hc:¬ bR (n.cells.getD k default).kind \/ kn known (n.cells.getD k default).out = true \/ ∃ x ∈ (n.cells.getD k default).args,kn known x = false):RR n rm (k + 1) more out known:=by
 refine ⟨h.ra,h.src,fun hm j w hd hj lJ hu=>?_,h.Oc⟩
 rcases Int.lt_or_eq_of_le (show j <= k by omega) with h3 | h3
 ·exact h.pr hm j w hd h3 lJ hu
 ·subst h3
  rcases hc with h4 | h4 | h4
  ·exact absurd lJ h4
  ·have:(n.cells.getD k default).out = w:=hd.2.2
   rw [this,hu] at h4; cases h4
  ·exact h4
theorem RR.mark(hf : bh n)(h : RR n rm k more out known)(hk : k < n.cells.length)(hc : bR (n.cells.getD k default).kind)(hu : kn known (n.cells.getD k default).out = false)(ha : ∀ x ∈ (n.cells.getD k default).args, kn known x = true){t : Int}(ht : t = gE out (n.cells.getD k default).args) :
  RR n rm (k + 1) true (out.set (n.cells.getD k default).out.toNat (t + l4 n (n.cells.getD k default))) (known.set (n.cells.getD k default).out.toNat true):=by
 have h7:(n.cells.getD k default).kind ≠ 7:=fun e=>by rw [e] at hc; revert hc; unfold bR; omega
 have wY:bH n (k:Int) (n.cells.getD k default).out:=⟨⟨om,om⟩,h7,rfl⟩
 have BR:=hf.fS wY
 unfold In at BR
 have h1:=h.ra.ol; have h2:=h.ra.kl
 have QI:∀ w:Int,0 <= w -> kn (known.set (n.cells.getD k default).out.toNat true) w = if (n.cells.getD k default).out = w then true else kn known w:=fun w hw=>GM BR.1 hw om
 have aj:∀ w:Int,0 <= w -> kn known w = true -> kn (known.set (n.cells.getD k default).out.toNat true) w = true:=fun w hw VM=>by
  rw [QI w hw]; split <;> simp_all
 have oset:∀ w:Int,0 <= w -> kn known w = true -> (out.set (n.cells.getD k default).out.toNat (t + l4 n (n.cells.getD k default))).getD w.toNat 0 = out.getD w.toNat 0:=fun w hw VM=>by
  rw [xt BR.1 hw om,if_neg]
  intro e; rw [<- e,hu] at VM; cases VM
 have arr:∀ j w,bH n j w -> (bR (n.cell j).kind -> ∀ x ∈ (n.cell j).args,kn known x = true) -> jV n (out.set (n.cells.getD k default).out.toNat (t + l4 n (n.cells.getD k default))) (n.cell j) = jV n out (n.cell j):=fun j w hd eW=>by
  unfold jV
  by_cases lJ:bR (n.cell j).kind
  ·rw [if_pos lJ,if_pos lJ,og (fun x hx=>oset x (hf.kJ hd.1 hx).1 (eW lJ x hx))]
  ·rw [if_neg lJ,if_neg lJ]
 refine ⟨⟨by rw [List.length_set]; exact h1,by rw [List.length_set]; exact h2,fun j w hd MW=>?_⟩,fun j w hd lJ=>aj w (hf.fS hd).1 (h.src j w hd lJ),(fun hm=>by cases hm),?_⟩
 ·have hw:=hf.fS hd
  unfold In at hw
  by_cases e:(n.cells.getD k default).out = w
  ·rw [e] at wY
   have:=hf.unique hd wY
   subst this
   refine ⟨?_,fun _ x hx=>aj x (hf.kJ hd.1 hx).1 (ha x hx)⟩
   rw [arr _ _ hd (fun _=>ha),xt BR.1 hw.1 om,if_pos e]
   unfold jV
   have e3:n.cell (k:Int) = n.cells.getD k default:=rfl
   rw [e3,if_pos hc,ht]
  ·rw [QI w hw.1,if_neg e] at MW
   obtain ⟨h3,h4⟩:=h.ra.fin j w hd MW
   exact ⟨by rw [oset w hw.1 MW,h3,arr j w hd h4],fun lJ x hx=>aj x (hf.kJ hd.1 hx).1 (h4 lJ x hx)⟩
 ·have h5:=lX (l:=known) (i:=(n.cells.getD k default).out.toNat) om hu
  have h6:=h.Oc
  simp only [if_true]
  split at h6 <;> omega
theorem RR.done(hf:bh n)(Q7:Acyclic n)(h:RR n rm k false out known)(hk:k = n.cells.length):tz n out:=by
 obtain ⟨r,hr⟩:=Q7
 have all:∀ m:Nat,∀ j w,bH n j w -> r j <= m -> kn known w = true:=by
  intro m
  induction m with
  | zero =>
   intro j w hd hm
   refine Classical.byContradiction fun hn=>?_
   have hn:kn known w = false:=by simpa using hn
   by_cases lJ:bR (n.cell j).kind
   ·obtain ⟨x,hx,Mr⟩:=h.pr rfl j w hd (by rw [hk]; exact hd.1.2) lJ hn
    obtain ⟨j',r8⟩:=hf.kg (hf.kJ hd.1 hx)
    by_cases GN:bR (n.cell j').kind
    ·have:=hr j j' ⟨hd.1,lJ⟩ ⟨r8.1,GN⟩ (by rw [r8.2.2]; exact hx)
     omega
    ·rw [h.src j' x r8 GN] at Mr; cases Mr
   ·rw [h.src j w hd lJ] at hn; cases hn
  | succ m ih =>
   intro j w hd hm
   refine Classical.byContradiction fun hn=>?_
   have hn:kn known w = false:=by simpa using hn
   by_cases lJ:bR (n.cell j).kind
   ·obtain ⟨x,hx,Mr⟩:=h.pr rfl j w hd (by rw [hk]; exact hd.1.2) lJ hn
    obtain ⟨j',r8⟩:=hf.kg (hf.kJ hd.1 hx)
    by_cases GN:bR (n.cell j').kind
    ·have:=hr j j' ⟨hd.1,lJ⟩ ⟨r8.1,GN⟩ (by rw [r8.2.2]; exact hx)
     rw [ih j' x r8 om] at Mr; cases Mr
    ·rw [h.src j' x r8 GN] at Mr; cases Mr
   ·rw [h.src j w hd lJ] at hn; cases hn
 exact ⟨h.ra.ol,fun i w hd=>(h.ra.fin i w hd (all _ i w hd (Nat.le_refl _))).1⟩
def Kg(known:List Bool)(l:List Int):Bool:=l.all (fun x=>kn known x)
theorem GO{l:List Int}{m:Nat}(hm:m < l.length):Kg known (l.take (m + 1)) = (Kg known (l.take m) && kn known (l.getD m 0)):=by
 unfold Kg; rw [take_one (d:=(0:Int)) hm,List.all_append]; simp
theorem Jh{l:List Int}(h:Kg known l = true):∀ x ∈ l,kn known x = true:=fun x hx=>List.all_eq_true.1 h x hx
theorem Ms{l:List Int}(h:Kg known l = false):∃ x ∈ l,kn known x = false:=by
 unfold Kg at h
 obtain ⟨x,hx,h2⟩:=List.all_eq_false.1 h
 exact ⟨x,hx,by simpa using h2⟩
end
open Go Go.AW Go.Proofs
structure RB(n:ab)(out:List Int)(known:List Bool):Prop where
 bd:∀ j,0 <= out.getD j 0 /\ out.getD j 0 + 400 * (ia known:Int) <= 400 * (n.aa.length:Int)
section
variable {n:ab} {out:List Int} {known:List Bool}
theorem RB.init:RB n (List.replicate n.aa.length 0) (List.replicate n.aa.length false):=⟨fun j=>by
 have:=pH (List.replicate n.aa.length false)
 simp only [List.length_replicate] at this
 have h0:(List.replicate n.aa.length (0:Int)).getD j 0 = 0:=by
  rw [List.getD_eq_getElem?_getD,List.getElem?_replicate]; split <;> rfl
 rw [h0]; omega⟩
theorem RB.set{i:Nat}{v:Int}(h:RB n out known)(hi:i < known.length)(hu:known.getD i false = false)(hv:0 <= v)(QV:v + 400 * (ia known:Int) <= 400 * (n.aa.length:Int) + 400):RB n (out.set i v) (known.set i true):=⟨fun j=>by
 have h1:=lX hi hu
 have h2:=h.bd j
 rw [bx]
 split <;> omega⟩
theorem RB.gE(h:RB n out known)(hk:known.length = n.aa.length)(l:List Int):0 <= gE out l /\ gE out l + 400 * (ia known:Int) <= 400 * (n.aa.length:Int):=by
 have h1:=pH known
 have:=l9 (at_:=out) (l:=l) (B:=400 * (n.aa.length:Int) - 400 * (ia known:Int)) om (fun w _=>by have:=h.bd w.toNat; omega)
 omega
theorem RB.src{k : Nat}(hM : VT n)(hB : RB n out known)(h : RS n k out known)(hk : k < n.cells.length)(h0 : (n.cells.getD k default).out ≥ 0) :
  RB n (out.set (n.cells.getD k default).out.toNat (l4 n (n.cells.getD k default))) (known.set (n.cells.getD k default).out.toNat true):=by
 have h7:(n.cells.getD k default).kind ≠ 7:=fun e=>by have:=(hM.formed.cells k hk).2.2.1 e; omega
 have wY:bH n (k:Int) (n.cells.getD k default).out:=⟨⟨om,om⟩,h7,rfl⟩
 have BR:=hM.formed.fS wY
 unfold In at BR
 have h1:=h.ra.kl
 have h2:=hM.l4 hk
 have h3:=pH known
 refine hB.set om ?_ h2.1 om
 refine Classical.byContradiction fun hn=>?_
 have hn:kn known (n.cells.getD k default).out = true:=by simpa [kn] using hn
 have:=((h.iff _ _ wY).1 hn).1
 omega
end
def QJ(out:List Int)(w a:Int):List Int:=if w ≥ 0 then out.set w.toNat (max (out.getD w.toNat 0) a) else out
structure EK(n:ab)(L:List (Int × Int))(out:List Int):Prop where
 len:out.length = n.aa.length
 snd:∀ w,In w n.aa.length -> out.getD w.toNat 0 = -1 \/ (w,out.getD w.toNat 0) ∈ L
 cmp:∀ e ∈ L,0 <= e.1 -> e.2 <= out.getD e.1.toNat 0
 lo:∀ w,In w n.aa.length -> -1 <= out.getD w.toNat 0 /\ out.getD w.toNat 0 <= 100
structure EI(n:ab)(k:Nat)(out:List Int):Prop where
 len:out.length = n.aa.length
 at_:∀ j,j < k -> out.getD j 0 = -1
theorem EI.init{n:ab}:EI n 0 (List.replicate n.aa.length 0):=⟨by simp,fun j h=>by omega⟩
theorem EI.step{n:ab}{k:Nat}{out:List Int}(h:EI n k out)(hk:k < n.aa.length):EI n (k + 1) (out.set k (-1)):=by
 have:=h.len
 refine ⟨by simp [this],fun j hj=>?_⟩
 rw [bx]
 by_cases e:k = j
 ·rw [if_pos ⟨e,om⟩]
 ·rw [if_neg om]; exact h.at_ j om
theorem EI.done{n:ab}{k:Nat}{out:List Int}(h:EI n k out)(hk:k = n.aa.length):EK n [] out :=
 have h1:∀ w,In w n.aa.length -> out.getD w.toNat 0 = -1:=fun w hw=>by unfold In at hw; exact h.at_ _ om
 ⟨h.len,fun w hw=>.inl (h1 w hw),(fun e he=>by cases he),fun w hw=>by rw [h1 w hw]; omega⟩
theorem EK.step{n:ab}{L:List (Int × Int)}{out:List Int}{w a:Int}(h:EK n L out)(hw:w < 0 \/ In w n.aa.length)(ha:0 <= a /\ a <= 100):EK n (L ++ [(w,a)]) (QJ out w a):=by
 unfold QJ
 by_cases h0:w ≥ 0
 ·have hw:In w n.aa.length:=by rcases hw with h | h; exact absurd h0 om; exact h
  have x6:=h.lo w hw
  rw [if_pos h0]
  unfold In at hw
  have hl:=h.len
  have key:∀ j,(out.set w.toNat (max (out.getD w.toNat 0) a)).getD j 0 = if w.toNat = j then max (out.getD w.toNat 0) a else out.getD j 0:=fun j=>by
   rw [bx]
   by_cases e:w.toNat = j
   ·rw [if_pos ⟨e,om⟩,if_pos e]
   ·rw [if_neg om,if_neg e]
  refine ⟨by rw [List.length_set]; exact hl,fun v hv=>?_,fun e he h1=>?_,fun v hv=>?_⟩
  ·have Nt:=hv
   unfold In at Nt
   rw [key]
   split
   ·obtain rfl:w = v:=by omega
    refine .inr (List.mem_append.2 ?_)
    rcases Int.le_total (out.getD w.toNat 0) a with h2 | h2
    ·rw [Int.max_eq_right h2]; exact .inr (List.mem_singleton.2 rfl)
    ·rw [Int.max_eq_left h2]
     rcases h.snd w hv with h3 | h3
     ·omega
     ·exact .inl h3
   ·rcases h.snd v hv with h3 | h3
    ·exact .inl h3
    ·exact .inr (List.mem_append.2 (.inl h3))
  ·rw [key]
   rcases List.mem_append.1 he with h2 | h2
   ·have:=h.cmp e h2 h1
    split
    ·rename_i h3; rw [<- h3] at this; omega
    ·exact this
   ·rw [List.mem_singleton.1 h2]
    rw [if_pos rfl]
    exact Int.le_max_right ..
  ·rw [key]
   have:=h.lo v hv
   split <;> omega
 ·rw [if_neg h0]
  refine ⟨h.len,fun v hv=>(h.snd v hv).imp id (fun h=>List.mem_append.2 (.inl h)),fun e he h1=>?_,h.lo⟩
  rcases List.mem_append.1 he with h2 | h2
  ·exact h.cmp e h2 h1
  ·rw [List.mem_singleton.1 h2] at h1; exact absurd h1 h0
theorem EK.cast{n:ab}{L M:List (Int × Int)}{out:List Int}(h:EK n L out)(e:L = M):EK n M out:=e ▸ h
def vv(n:ab)(c:Cell):List (Int × Int):=if c.kind = 4 then [(c.args.getD 0 0,100),(c.args.getD 1 0,60),(n.freeze,100)] else if Port c.kind then c.args.map (fun w=>(w,20)) ++ [(n.freeze,20)] else []
def QK(n:ab)(k:Nat):List (Int × Int):=[(n.done,0)] ++ (n.cM.take k).map (fun w=>(w,0))
def QL(n:ab)(k:Nat):List (Int × Int):=QK n n.cM.length ++ (List.range k).flatMap (fun i=>[(n.bB.getD i 0,0),(n.data.getD i 0,0)])
def GP(n:ab)(k:Nat):List (Int × Int):=QL n n.bB.length ++ (n.cells.take k).flatMap (vv n)
section
variable {n:ab} {k:Nat}
theorem Cu{e:Int × Int}:e ∈ GP n n.cells.length ↔ (e = (n.done,0) \/ (∃ w ∈ n.cM,(w,0) = e)) \/ (∃ i,i < n.bB.length /\ (e = (n.bB.getD i 0,0) \/ e = (n.data.getD i 0,0))) \/ ∃ c ∈ n.cells,e ∈ vv n c:=by
 unfold GP QL QK
 simp only [List.take_length,List.mem_append,List.mem_map,List.mem_flatMap,List.mem_range,List.mem_cons,List.not_mem_nil,or_false]
 constructor
 ·rintro ((h | h) | h)
  ·exact .inl h
  ·exact .inr (.inl h)
  ·exact .inr (.inr h)
 ·rintro (h | h | h)
  ·exact .inl (.inl h)
  ·exact .inl (.inr h)
  ·exact .inr h
theorem Cv{e:Int × Int}:e ∈ tO n ↔ ((∃ c ∈ n.cells,e ∈ Dg c) \/ (e = (n.freeze,100) /\ ∃ c ∈ n.cells,c.kind = 4)) \/ ((∃ c ∈ n.cells,e ∈ yE c) \/ (e = (n.freeze,20) /\ ∃ c ∈ n.cells,Port c.kind)) \/ (e.2 = 0 /\ 0 <= e.1 /\ e.1 ∈ rest n):=by
 have sX:∀ (b:Bool) (v:Int),e ∈ Dh n b v ↔ e = (n.freeze,v) /\ b = true:=fun b v=>by unfold Dh; cases b <;> simp
 unfold tO IQ
 simp only [List.mem_append,sX]
 unfold Qj Kd Gh Ck IP
 simp only [List.take_length,List.mem_flatMap,List.any_eq_true,decide_eq_true_eq,List.mem_map,List.mem_filter]
 constructor
 ·rintro (h | (h | h) | ⟨w,h,rfl⟩)
  ·exact .inl h
  ·exact .inr (.inl (.inl h))
  ·exact .inr (.inl (.inr h))
  ·exact .inr (.inr ⟨rfl,h.2,h.1⟩)
 ·rintro (h | (h | h) | ⟨h1,h2,h3⟩)
  ·exact .inl h
  ·exact .inr (.inl (.inl h))
  ·exact .inr (.inl (.inr h))
  ·exact .inr (.inr ⟨e.1,⟨h3,h2⟩,by rw [<- h1]⟩)
theorem Ji(hl:n.bB.length = n.data.length){e:Int × Int}(h:e ∈ GP n n.cells.length)(h0:0 <= e.1):e ∈ tO n:=by
 rw [Cv]
 rcases Cu.1 h with (rfl | ⟨w,hw,rfl⟩) | ⟨i,hi,rfl | rfl⟩ | ⟨c,hc,he⟩
 ·exact .inr (.inr ⟨rfl,h0,mb.2 (.inl rfl)⟩)
 ·exact .inr (.inr ⟨rfl,h0,mb.2 (.inr (.inl hw))⟩)
 ·exact .inr (.inr ⟨rfl,h0,mb.2 (.inr (.inr (.inl (bC hi))))⟩)
 ·exact .inr (.inr ⟨rfl,h0,mb.2 (.inr (.inr (.inr (bC om))))⟩)
 ·unfold vv at he
  split at he
  ·rename_i h4
   simp only [List.mem_cons,List.not_mem_nil,or_false] at he
   rcases he with he | he | he
   ·exact .inl (.inl ⟨c,hc,by unfold Dg; rw [if_pos h4,he]; simp⟩)
   ·exact .inl (.inl ⟨c,hc,by unfold Dg; rw [if_pos h4,he]; simp⟩)
   ·exact .inl (.inr ⟨he,c,hc,h4⟩)
  ·split at he
   ·rename_i hp
    rcases List.mem_append.1 he with he | he
    ·exact .inr (.inl (.inl ⟨c,hc,by unfold yE; rw [if_pos hp]; exact he⟩))
    ·exact .inr (.inl (.inr ⟨List.mem_singleton.1 he,c,hc,hp⟩))
   ·cases he
theorem Jj(hl:n.bB.length = n.data.length){e:Int × Int}(h:e ∈ tO n):e ∈ GP n n.cells.length:=by
 rw [Cu]
 have Kh:∀ k:Int,Port k -> k ≠ 4:=fun k h=>by unfold Port at h; omega
 rcases Cv.1 h with (⟨c,hc,he⟩ | ⟨he,c,hc,h4⟩) | (⟨c,hc,he⟩ | ⟨he,c,hc,hp⟩) | ⟨h1,h2,h3⟩
 ·refine .inr (.inr ⟨c,hc,?_⟩)
  unfold Dg at he
  split at he
  ·rename_i h4
   unfold vv; rw [if_pos h4]
   simp only [List.mem_cons,List.not_mem_nil,or_false] at he
   rcases he with rfl | rfl <;> simp
  ·cases he
 ·refine .inr (.inr ⟨c,hc,?_⟩)
  unfold vv; rw [if_pos h4,he]; simp
 ·refine .inr (.inr ⟨c,hc,?_⟩)
  unfold yE at he
  split at he
  ·rename_i hp
   unfold vv; rw [if_neg (Kh _ hp),if_pos hp]
   exact List.mem_append.2 (.inl he)
  ·cases he
 ·refine .inr (.inr ⟨c,hc,?_⟩)
  unfold vv; rw [if_neg (Kh _ hp),if_pos hp,he]
  exact List.mem_append.2 (.inr (List.mem_singleton.2 rfl))
 ·obtain ⟨w,a⟩:=e
  simp only at h1 h2 h3
  subst h1
  rcases mb.1 h3 with rfl | h | h | h
  ·exact .inl (.inl rfl)
  ·exact .inl (.inr ⟨w,h,rfl⟩)
  ·obtain ⟨i,hi,rfl⟩:=List.mem_iff_getElem.1 h
   exact .inr (.inl ⟨i,hi,.inl (by rw [List.getD_eq_getElem?_getD,List.getElem?_eq_getElem hi]; rfl)⟩)
  ·obtain ⟨i,hi,rfl⟩:=List.mem_iff_getElem.1 h
   exact .inr (.inl ⟨i,om,.inr (by rw [List.getD_eq_getElem?_getD,List.getElem?_eq_getElem hi]; rfl)⟩)
structure EN(n:ab)(out:List Int):Prop where
 len:out.length = n.aa.length
 snd:∀ w,In w n.aa.length -> out.getD w.toNat 0 = -1 \/ (w,out.getD w.toNat 0) ∈ tO n
 cmp:∀ e ∈ tO n,e.2 <= out.getD e.1.toNat 0
 lo:∀ w,In w n.aa.length -> -1 <= out.getD w.toNat 0 /\ out.getD w.toNat 0 <= 100
theorem EK.en(hf:bh n)(hl:n.bB.length = n.data.length){out:List Int}(h:EK n (GP n n.cells.length) out):EN n out where
 len:=h.len
 snd:=fun w hw=>(h.snd w hw).imp id (fun h1=>Ji hl h1 hw.1)
 cmp:=fun e he=>h.cmp e (Jj hl he) (Cl hf he).1.1
 lo:=h.lo
structure LK(at_ en:List Int)(k:Nat)(d:Int):Prop where
 lo:0 <= d
 up:∀ j,j < k -> 0 <= en.getD j 0 -> at_.getD j 0 + en.getD j 0 <= d
 of:d = 0 \/ ∃ j,j < k /\ 0 <= en.getD j 0 /\ d = at_.getD j 0 + en.getD j 0
theorem LK.init{at_ en:List Int}:LK at_ en 0 0:=⟨Int.le_refl _,fun j h=>by omega,.inl rfl⟩
theorem LK.skip{at_ en:List Int}{d:Int}(h:LK at_ en k d)(h0:¬ en.getD k 0 ≥ 0):LK at_ en (k + 1) d:=by
 refine ⟨h.lo,fun j hj h1=>?_,?_⟩
 ·rcases Nat.lt_or_ge j k with h2 | h2
  ·exact h.up j h2 h1
  ·obtain rfl:j = k:=by omega
   exact absurd h1 h0
 ·rcases h.of with h | ⟨j,h1,h2⟩
  ·exact .inl h
  ·exact .inr ⟨j,om,h2⟩
theorem LK.step{at_ en:List Int}{d:Int}(h:LK at_ en k d)(h0:en.getD k 0 ≥ 0):LK at_ en (k + 1) (if at_.getD k 0 + en.getD k 0 > d then at_.getD k 0 + en.getD k 0 else d):=by
 have x6:=h.lo
 refine ⟨by split <;> omega,fun j hj h1=>?_,?_⟩
 ·rcases Nat.lt_or_ge j k with h2 | h2
  ·have:=h.up j h2 h1
   split <;> omega
  ·obtain rfl:j = k:=by omega
   split <;> omega
 ·split
  ·exact .inr ⟨k,om,h0,rfl⟩
  ·rcases h.of with h | ⟨j,h1,h2⟩
   ·exact .inl h
   ·exact .inr ⟨j,om,h2⟩
theorem LK.eq{l at_ en st:List Int}{d D:Int}(hM:VT n)(ho:Ord n l)(ha:tz n at_)(he:EN n en)(h:LK at_ en k D)(hk:k = n.aa.length)(hp:GL n at_ st d):d = D:=by
 refine Int.le_antisymm ?_ ?_
 ·obtain ⟨a,h1,h2⟩:=hp.end_
  have h3:=Cl hM.formed h1
  have h4:=he.cmp _ h1
  have h5:=h3.1
  unfold In at h5
  simp only at h4 h5 h3
  have:=h.up (st.getD (st.length - 1) 0).toNat om om
  omega
 ·rcases h.of with h1 | ⟨j,h1,h2,h3⟩
  ·have h4:=hp.max _ (Gi hM.formed)
   have:=(ha.rE hM ho hM.formed.done).1
   simp only at h4
   omega
  ·have hj:In (j:Int) n.aa.length:=by unfold In; omega
   rcases he.snd _ hj with h4 | h4
   ·rw [Int.toNat_natCast] at h4; omega
   ·have:=hp.max _ h4
    rw [Int.toNat_natCast] at this
    omega
theorem GL.sum{at_ st : List Int}{d : Int}(hp : GL n at_ st d)(hf : bh n){j : Nat}(hj : j < st.length){i : Int}(hd : bH n i (st.getD j 0)) :
  (j = 0 -> l4 n (n.cell i) = at_.getD (st.getD 0 0).toNat 0 /\ ¬ (bR (n.cell i).kind /\ (n.cell i).kind ≠ 1)) /\
  (0 < j -> at_.getD (st.getD (j - 1) 0).toNat 0 + l4 n (n.cell i) = at_.getD (st.getD j 0).toNat 0 /\ bR (n.cell i).kind /\ st.getD (j - 1) 0 ∈ (n.cell i).args):=by
 constructor
 ·intro h0
  subst h0
  obtain ⟨i',h1,h2,h3⟩:=hp.root
  have:=hf.unique hd h1
  subst this
  exact ⟨h2.symm,by rintro ⟨h4,h5⟩; rcases h3 with h3 | h3; exact h3 h4; exact h5 h3⟩
 ·intro h0
  obtain ⟨i',h1,h2,h3,h4⟩:=hp.link (j - 1) om
  rw [show j - 1 + 1 = j by omega] at h1 h4
  have:=hf.unique hd h1
  subst this
  exact ⟨h4.symm,h2,h3⟩
end
section
variable {n:ab} {k:Nat}
end
open Go Go.AW Go.Proofs
theorem mn{x:Int}(h0:0 <= x)(h1:x <= 256):aw Try.prog 84 [vi x] [] [] (fun r o=>r = (vi ((cF x.toNat:Nat):Int)) /\ o = []):=by
 refine aw.of Try.func84 U U U (n:=17) ae (aH U) (.sr (.an (.nil (.sr ?_))))
 refine .an ?_
 refine .nil (.seq (.sr (.an (.nil (.block ?_)))))
 refine .iD (fun (Be:Nat) (Du:Nat)=>⟨[(0,vi x),(3,vi Be),(4,vi Du)],[]⟩) (fun Be Du=>(vu x Be Du)) (fun Be Du=>9 - Be) 0 1 (vu.init) (Le.mk (.c (.cons (ak U bc) (.cons (ak U bc) .nil))) .nil) (fun Be Du qR=>?_)
 have hL:=qR
 refine .seq (.sr (.mv ?_))
 refine .mv ?_
 refine .vl (Y.zc U U) (.mv ?_)
 refine .aC (d:=8) U (fun c8=>?_) (fun c8=>?_)
 refine .gw 8 (Y.zh U U) (.gw 8 (Y.zc U U) (.pk ?_))
 refine .nil (.aA U (fun JX=>?_) (fun JX=>?_))
 refine .skip (.seq (.block ?_))
 have h5:=hL.le h1
 refine .region (.mv ?_)
 refine .vl (Y.qb U U aG) (.an (.nil (.region ?_)))
 refine .mv ?_
 refine .vl (Y.zj U U om) (.an ?_)
 refine .nil ⟨Be + 1,2 * Du,hL.step ej,om,Le.mk (.c (.cons (ak U bc) (.cons (ak U bc) .nil))) .nil⟩
 refine .exit (.sr (.mv ?_))
 refine .an (.nil (.ret ?_))
 exact .ri rfl (congrArg Nat.cast (hL.done h0 (by have h9:=hL.le h1; omega)))
 refine .gz 8 (.gz 8 (.pk ?_))
 refine .nil (.cZ U (.exit (.sr (.mv ?_))))
 refine .an (.nil (.ret ?_))
 exact .ri rfl (congrArg Nat.cast (hL.done h0 (by have h9:=hL.le h1; omega)))
theorem ea{a b c:Int}:aw Try.prog 85 [vi a,vi b,vi c] [] [] (fun r o=>r = .agg [vi 0,vi a,vi b,vi 0,vi 0,vi c] /\ o = []):=by
 refine aw.of Try.func85 U U U (n:=11) ae (aH U) (.sr (.alloc 106 iE U U ae ?_))
 refine .nil (.sr (.mv ?_))
 refine .mv ?_
 refine .mv ?_
 refine .vl (Y.qh mI iE U U U) (.ai bK U U U U U U (aH U) U (.nil (.ret ⟨_,_,U,U,U,U⟩)))
theorem Bf{op x:Int}(hp:Plain op)(h0:1 <= x)(h1:x <= 64):aw Try.prog 43 [vi op,vi x] [] [] (fun r o=>∃ c:Int,r = .agg [vi 0,vi x,vi (aK op x.toNat),vi 0,vi 0,vi c] /\ o = []):=by
 refine aw.of Try.func43 U U U (n:=161) ae (aH U) ?_
 have Kf:=hp; unfold Plain GX Seq Unary at Kf; have xC:=vj (n:=x.toNat) om; have Ja:=vj (n:=(x + 1).toNat) om; have hle:(x + 1).toNat = x.toNat + 1:=om; have Vc:=ue h0 h1 xC; have Vd:=ue h0 h1 Ja
 refine .sr (.alloc 104 iE U U ae (.nil (.sr (.mv ?_))))
 refine .aZ KV (mn (x:=x) (om) (om)) U (.aj U U .nil) ae U ?_
 refine .mv ?_
 refine .vl (Y.qb U U aG) (.aZ KV (mn (x:=(x + 1)) (om) (om)) U (.aj U U .nil) ae U ?_)
 refine .an ?_
 refine .an ?_
 refine .nil (.seq (.sr (.mv ?_)))
 refine .nil (.block (.sr (.vl (Y.ql U U) (.an (.nil ?_)))))
 refine .aA U (fun xy=>?_) (fun xy=>?_)
 refine .sr (.mv ?_)
 refine .mv ?_
 refine .vl (Y.zj U U om) (.vl (Y.qb U U aG) (.mv ?_))
 refine .vl (Y.zj U U om) (.mv ?_)
 refine .vl (Y.zj U U om) (.mv ?_)
 refine .vl (Y.zj U U om) (.vl (Y.qb U U aG) (.aZ pV (ea (a:=x) (b:=(40 + (40 * ((cF x.toNat:Nat):Int)))) (c:=((3 * x) + ((3 * x) * ((cF x.toNat:Nat):Int))))) U (.aj U U (.aj U U (.aj U U .nil))) ae U (.ai bK U U U U U U (aH U) U (.nil (.ret ?_)))))
 first | (exfalso; omega) | exact ⟨_,_,rfl,rfl,(3 * x) + ((3 * x) * ((cF x.toNat:Nat):Int)),by rw [show aK op x.toNat = 40 + (40 * ((cF x.toNat:Nat):Int)) by (try rw [hle]); unfold aK; (repeat' split) <;> omega]; rfl,rfl⟩
 refine .sr (.vl (Y.ql U U) (.an (.nil ?_)))
 refine .aA U (fun z4=>?_) (fun z4=>?_)
 refine .sr (.mv ?_)
 refine .mv ?_
 refine .vl (Y.zj U U om) (.vl (Y.qb U U aG) (.mv ?_))
 refine .vl (Y.zj U U om) (.mv ?_)
 refine .vl (Y.zj U U om) (.mv ?_)
 refine .vl (Y.zj U U om) (.vl (Y.qb U U aG) (.aZ pV (ea (a:=x) (b:=(50 + (40 * ((cF x.toNat:Nat):Int)))) (c:=((4 * x) + ((3 * x) * ((cF x.toNat:Nat):Int))))) U (.aj U U (.aj U U (.aj U U .nil))) ae U (.ai bK U U U U U U (aH U) U (.nil (.ret ?_)))))
 first | (exfalso; omega) | exact ⟨_,_,rfl,rfl,(4 * x) + ((3 * x) * ((cF x.toNat:Nat):Int)),by rw [show aK op x.toNat = 50 + (40 * ((cF x.toNat:Nat):Int)) by (try rw [hle]); unfold aK; (repeat' split) <;> omega]; rfl,rfl⟩
 refine .seq (.sr (.vl (Y.ql U U) (.an (.nil ?_))))
 refine .bm U (fun Az=>?_) (fun Az=>?_)
 refine .skip (.aO U (.sr (.mv ?_)))
 refine .mv ?_
 refine .aZ pV (ea (a:=x) (b:=20) (c:=x)) U (.aj U U (.aj U U (.aj U U .nil))) ae U (.ai bK U U U U U U (aH U) U (.nil (.ret ?_)))
 first | (exfalso; omega) | exact ⟨_,_,rfl,rfl,x,by rw [show aK op x.toNat = 20 by (try rw [hle]); unfold aK; (repeat' split) <;> omega]; rfl,rfl⟩
 refine .sr (.vl (Y.ql U U) (.an (.nil ?_)))
 refine .bm U (fun Az=>?_) (fun Az=>?_)
 refine .skip (.aO U (.sr (.mv ?_)))
 refine .mv ?_
 refine .aZ pV (ea (a:=x) (b:=20) (c:=x)) U (.aj U U (.aj U U (.aj U U .nil))) ae U (.ai bK U U U U U U (aH U) U (.nil (.ret ?_)))
 first | (exfalso; omega) | exact ⟨_,_,rfl,rfl,x,by rw [show aK op x.toNat = 20 by (try rw [hle]); unfold aK; (repeat' split) <;> omega]; rfl,rfl⟩
 refine .region (.vl (Y.ql U U) (.an (.nil ?_)))
 refine .bm U (fun Az=>?_) (fun Az=>?_)
 refine .sr (.mv ?_)
 refine .mv ?_
 refine .aZ pV (ea (a:=x) (b:=20) (c:=x)) U (.aj U U (.aj U U (.aj U U .nil))) ae U (.ai bK U U U U U U (aH U) U (.nil (.ret ?_)))
 first | (exfalso; omega) | exact ⟨_,_,rfl,rfl,x,by rw [show aK op x.toNat = 20 by (try rw [hle]); unfold aK; (repeat' split) <;> omega]; rfl,rfl⟩
 refine .seq (.sr (.vl (Y.ql U U) (.an (.nil ?_))))
 refine .bm U (fun Aw=>?_) (fun Aw=>?_)
 refine .skip (.aO U (.sr (.mv ?_)))
 refine .mv ?_
 refine .vl (Y.zj U U om) (.vl (Y.qb U U aG) (.mv ?_))
 refine .vl (Y.zj U U om) (.mv ?_)
 refine .vl (Y.zj U U om) (.mv ?_)
 refine .vl (Y.zj U U om) (.vl (Y.qb U U aG) (.aZ pV (ea (a:=x) (b:=(30 + (40 * ((cF x.toNat:Nat):Int)))) (c:=((2 * x) + ((3 * x) * ((cF x.toNat:Nat):Int))))) U (.aj U U (.aj U U (.aj U U .nil))) ae U (.ai bK U U U U U U (aH U) U (.nil (.ret ?_)))))
 first | (exfalso; omega) | exact ⟨_,_,rfl,rfl,(2 * x) + ((3 * x) * ((cF x.toNat:Nat):Int)),by rw [show aK op x.toNat = 30 + (40 * ((cF x.toNat:Nat):Int)) by (try rw [hle]); unfold aK; (repeat' split) <;> omega]; rfl,rfl⟩
 refine .region (.vl (Y.ql U U) (.an (.nil ?_)))
 refine .bm U (fun Aw=>?_) (fun Aw=>?_)
 refine .sr (.mv ?_)
 refine .mv ?_
 refine .vl (Y.zj U U om) (.vl (Y.qb U U aG) (.mv ?_))
 refine .vl (Y.zj U U om) (.mv ?_)
 refine .vl (Y.zj U U om) (.mv ?_)
 refine .vl (Y.zj U U om) (.vl (Y.qb U U aG) (.aZ pV (ea (a:=x) (b:=(30 + (40 * ((cF x.toNat:Nat):Int)))) (c:=((2 * x) + ((3 * x) * ((cF x.toNat:Nat):Int))))) U (.aj U U (.aj U U (.aj U U .nil))) ae U (.ai bK U U U U U U (aH U) U (.nil (.ret ?_)))))
 first | (exfalso; omega) | exact ⟨_,_,rfl,rfl,(2 * x) + ((3 * x) * ((cF x.toNat:Nat):Int)),by rw [show aK op x.toNat = 30 + (40 * ((cF x.toNat:Nat):Int)) by (try rw [hle]); unfold aK; (repeat' split) <;> omega]; rfl,rfl⟩
 refine .sr (.vl (Y.ql U U) (.an (.nil ?_)))
 refine .aA U (fun sq=>?_) (fun sq=>?_)
 refine .sr (.mv ?_)
 refine .mv ?_
 refine .vl (Y.zj U U om) (.vl (Y.qb U U aG) (.mv ?_))
 refine .vl (Y.zj U U om) (.mv ?_)
 refine .vl (Y.zj U U om) (.mv ?_)
 refine .vl (Y.zj U U om) (.vl (Y.qb U U aG) (.aZ pV (ea (a:=x) (b:=(50 + (40 * ((cF x.toNat:Nat):Int)))) (c:=((4 * x) + ((3 * x) * ((cF x.toNat:Nat):Int))))) U (.aj U U (.aj U U (.aj U U .nil))) ae U (.ai bK U U U U U U (aH U) U (.nil (.ret ?_)))))
 first | (exfalso; omega) | exact ⟨_,_,rfl,rfl,(4 * x) + ((3 * x) * ((cF x.toNat:Nat):Int)),by rw [show aK op x.toNat = 50 + (40 * ((cF x.toNat:Nat):Int)) by (try rw [hle]); unfold aK; (repeat' split) <;> omega]; rfl,rfl⟩
 refine .seq (.sr (.vl (Y.ql U U) (.an (.nil ?_))))
 refine .bm U (fun Ay=>?_) (fun Ay=>?_)
 refine .skip (.aO U (.sr (.mv ?_)))
 refine .mv ?_
 refine .vl (Y.zj U U om) (.vl (Y.qb U U aG) (.mv ?_))
 refine .vl (Y.zj U U om) (.aZ pV (ea (a:=x) (b:=(30 + (20 * ((cF x.toNat:Nat):Int)))) (c:=(2 * x))) U (.aj U U (.aj U U (.aj U U .nil))) ae U (.ai bK U U U U U U (aH U) U (.nil (.ret ?_))))
 first | (exfalso; omega) | exact ⟨_,_,rfl,rfl,2 * x,by rw [show aK op x.toNat = 30 + (20 * ((cF x.toNat:Nat):Int)) by (try rw [hle]); unfold aK; (repeat' split) <;> omega]; rfl,rfl⟩
 refine .region (.vl (Y.ql U U) (.an (.nil ?_)))
 refine .bm U (fun Ay=>?_) (fun Ay=>?_)
 refine .sr (.mv ?_)
 refine .mv ?_
 refine .vl (Y.zj U U om) (.vl (Y.qb U U aG) (.mv ?_))
 refine .vl (Y.zj U U om) (.aZ pV (ea (a:=x) (b:=(30 + (20 * ((cF x.toNat:Nat):Int)))) (c:=(2 * x))) U (.aj U U (.aj U U (.aj U U .nil))) ae U (.ai bK U U U U U U (aH U) U (.nil (.ret ?_))))
 first | (exfalso; omega) | exact ⟨_,_,rfl,rfl,2 * x,by rw [show aK op x.toNat = 30 + (20 * ((cF x.toNat:Nat):Int)) by (try rw [hle]); unfold aK; (repeat' split) <;> omega]; rfl,rfl⟩
 refine .seq (.sr (.vl (Y.ql U U) (.an (.nil ?_))))
 refine .bm U (fun VN=>?_) (fun VN=>?_)
 refine .skip (.aO U (.sr (.mv ?_)))
 refine .mv ?_
 refine .vl (Y.zj U U om) (.vl (Y.qb U U aG) (.mv ?_))
 refine .vl (Y.zj U U om) (.mv ?_)
 refine .vl (Y.zj U U om) (.mv ?_)
 refine .vl (Y.zj U U om) (.vl (Y.qb U U aG) (.aZ pV (ea (a:=x) (b:=(40 + (40 * ((cF (x + 1).toNat:Nat):Int)))) (c:=((4 * x) + ((3 * x) * ((cF (x + 1).toNat:Nat):Int))))) U (.aj U U (.aj U U (.aj U U .nil))) ae U (.ai bK U U U U U U (aH U) U (.nil (.ret ?_)))))
 first | (exfalso; omega) | exact ⟨_,_,rfl,rfl,(4 * x) + ((3 * x) * ((cF (x + 1).toNat:Nat):Int)),by rw [show aK op x.toNat = 40 + (40 * ((cF (x + 1).toNat:Nat):Int)) by (try rw [hle]); unfold aK; (repeat' split) <;> omega]; rfl,rfl⟩
 refine .region (.vl (Y.ql U U) (.an (.nil ?_)))
 refine .bm U (fun VN=>?_) (fun VN=>?_)
 refine .sr (.mv ?_)
 refine .mv ?_
 refine .vl (Y.zj U U om) (.vl (Y.qb U U aG) (.mv ?_))
 refine .vl (Y.zj U U om) (.mv ?_)
 refine .vl (Y.zj U U om) (.mv ?_)
 refine .vl (Y.zj U U om) (.vl (Y.qb U U aG) (.aZ pV (ea (a:=x) (b:=(40 + (40 * ((cF (x + 1).toNat:Nat):Int)))) (c:=((4 * x) + ((3 * x) * ((cF (x + 1).toNat:Nat):Int))))) U (.aj U U (.aj U U (.aj U U .nil))) ae U (.ai bK U U U U U U (aH U) U (.nil (.ret ?_)))))
 first | (exfalso; omega) | exact ⟨_,_,rfl,rfl,(4 * x) + ((3 * x) * ((cF (x + 1).toNat:Nat):Int)),by rw [show aK op x.toNat = 40 + (40 * ((cF (x + 1).toNat:Nat):Int)) by (try rw [hle]); unfold aK; (repeat' split) <;> omega]; rfl,rfl⟩
 refine .seq (.sr (.vl (Y.ql U U) (.an (.nil ?_))))
 refine .bm U (fun Gv=>?_) (fun Gv=>?_)
 refine .skip (.aO U (.sr (.mv ?_)))
 refine .mv ?_
 refine .vl (Y.zj U U om) (.vl (Y.qb U U aG) (.mv ?_))
 refine .vl (Y.zj U U om) (.mv ?_)
 refine .vl (Y.zj U U om) (.mv ?_)
 refine .vl (Y.zj U U om) (.vl (Y.qb U U aG) (.vl (Y.qb U U aG) (.aZ pV (ea (a:=x) (b:=(50 + (40 * ((cF (x + 1).toNat:Nat):Int)))) (c:=(((4 * x) + ((3 * x) * ((cF (x + 1).toNat:Nat):Int))) + 2))) U (.aj U U (.aj U U (.aj U U .nil))) ae U (.ai bK U U U U U U (aH U) U (.nil (.ret ?_))))))
 first | (exfalso; omega) | exact ⟨_,_,rfl,rfl,((4 * x) + ((3 * x) * ((cF (x + 1).toNat:Nat):Int))) + 2,by rw [show aK op x.toNat = 50 + (40 * ((cF (x + 1).toNat:Nat):Int)) by (try rw [hle]); unfold aK; (repeat' split) <;> omega]; rfl,rfl⟩
 refine .region (.vl (Y.ql U U) (.an (.nil ?_)))
 refine .bm U (fun Gv=>?_) (fun Gv=>?_)
 refine .sr (.mv ?_)
 refine .mv ?_
 refine .vl (Y.zj U U om) (.vl (Y.qb U U aG) (.mv ?_))
 refine .vl (Y.zj U U om) (.mv ?_)
 refine .vl (Y.zj U U om) (.mv ?_)
 refine .vl (Y.zj U U om) (.vl (Y.qb U U aG) (.vl (Y.qb U U aG) (.aZ pV (ea (a:=x) (b:=(50 + (40 * ((cF (x + 1).toNat:Nat):Int)))) (c:=(((4 * x) + ((3 * x) * ((cF (x + 1).toNat:Nat):Int))) + 2))) U (.aj U U (.aj U U (.aj U U .nil))) ae U (.ai bK U U U U U U (aH U) U (.nil (.ret ?_))))))
 first | (exfalso; omega) | exact ⟨_,_,rfl,rfl,((4 * x) + ((3 * x) * ((cF (x + 1).toNat:Nat):Int))) + 2,by rw [show aK op x.toNat = 50 + (40 * ((cF (x + 1).toNat:Nat):Int)) by (try rw [hle]); unfold aK; (repeat' split) <;> omega]; rfl,rfl⟩
 refine .sr (.vl (Y.ql U U) (.an (.nil ?_)))
 refine .aA U (fun VO=>?_) (fun VO=>?_)
 refine .sr (.mv ?_)
 refine .mv ?_
 refine .vl (Y.zj U U om) (.vl (Y.qb U U aG) (.aZ pV (ea (a:=x) (b:=50) (c:=((3 * x) + 1))) U (.aj U U (.aj U U (.aj U U .nil))) ae U (.ai bK U U U U U U (aH U) U (.nil (.ret ?_)))))
 first | (exfalso; omega) | exact ⟨_,_,rfl,rfl,(3 * x) + 1,by rw [show aK op x.toNat = 50 by (try rw [hle]); unfold aK; (repeat' split) <;> omega]; rfl,rfl⟩
 refine .sr (.vl (Y.ql U U) (.an (.nil ?_)))
 refine .aA U (fun AE=>?_) (fun AE=>?_)
 refine .sr (.mv ?_)
 refine .mv ?_
 refine .vl (Y.qb U U aG) (.vl (Y.zq U U om) (.vl (Y.qb U U aG) (.mv ?_)))
 refine .vl (Y.zj U U om) (.mv ?_)
 refine .vl (Y.zj U U om) (.vl (Y.qh mI iE U U U) (.ai bK U U U U U U (aH U) U (.nil (.ret ?_))))
 first | (exfalso; omega) | exact ⟨_,_,rfl,rfl,(6 * x) * x,by rw [show aK op x.toNat = 0 by (try rw [hle]); unfold aK; (repeat' split) <;> omega]; rfl,rfl⟩
 refine .seq (.sr (.vl (Y.ql U U) (.an (.nil ?_))))
 refine .bm U (fun qT=>?_) (fun qT=>?_)
 refine .skip (.aO U (.sr (.mv ?_)))
 refine .vl (Y.qb U U aG) (.vl (Y.wc U U aG) (.mv ?_))
 refine .mv ?_
 refine .vl (Y.qb U U aG) (.vl (Y.zq U U om) (.vl (Y.qb U U aG) (.mv ?_)))
 refine .vl (Y.qb U U aG) (.vl (Y.zq U U om) (.vl (Y.qb U U aG) (.mv ?_)))
 refine .vl (Y.zj U U om) (.mv ?_)
 refine .vl (Y.zj U U om) (.vl (Y.qh mI iE U U U) (.ai bK U U U U U U (aH U) U (.nil (.ret ?_))))
 first | (exfalso; omega) | exact ⟨_,_,rfl,rfl,(8 * x) * x,by rw [show aK op x.toNat = 0 by (try rw [hle]); unfold aK; (repeat' split) <;> omega]; rfl,rfl⟩
 refine .sr (.vl (Y.ql U U) (.an (.nil ?_)))
 refine .bm U (fun qT=>?_) (fun qT=>?_)
 refine .skip (.aO U (.sr (.mv ?_)))
 refine .vl (Y.qb U U aG) (.vl (Y.wc U U aG) (.mv ?_))
 refine .mv ?_
 refine .vl (Y.qb U U aG) (.vl (Y.zq U U om) (.vl (Y.qb U U aG) (.mv ?_)))
 refine .vl (Y.qb U U aG) (.vl (Y.zq U U om) (.vl (Y.qb U U aG) (.mv ?_)))
 refine .vl (Y.zj U U om) (.mv ?_)
 refine .vl (Y.zj U U om) (.vl (Y.qh mI iE U U U) (.ai bK U U U U U U (aH U) U (.nil (.ret ?_))))
 first | (exfalso; omega) | exact ⟨_,_,rfl,rfl,(8 * x) * x,by rw [show aK op x.toNat = 0 by (try rw [hle]); unfold aK; (repeat' split) <;> omega]; rfl,rfl⟩
 refine .sr (.vl (Y.ql U U) (.an (.nil ?_)))
 refine .bm U (fun qT=>?_) (fun qT=>?_)
 refine .skip (.aO U (.sr (.mv ?_)))
 refine .vl (Y.qb U U aG) (.vl (Y.wc U U aG) (.mv ?_))
 refine .mv ?_
 refine .vl (Y.qb U U aG) (.vl (Y.zq U U om) (.vl (Y.qb U U aG) (.mv ?_)))
 refine .vl (Y.qb U U aG) (.vl (Y.zq U U om) (.vl (Y.qb U U aG) (.mv ?_)))
 refine .vl (Y.zj U U om) (.mv ?_)
 refine .vl (Y.zj U U om) (.vl (Y.qh mI iE U U U) (.ai bK U U U U U U (aH U) U (.nil (.ret ?_))))
 first | (exfalso; omega) | exact ⟨_,_,rfl,rfl,(8 * x) * x,by rw [show aK op x.toNat = 0 by (try rw [hle]); unfold aK; (repeat' split) <;> omega]; rfl,rfl⟩
 refine .region (.vl (Y.ql U U) (.an (.nil ?_)))
 refine .bm U (fun qT=>?_) (fun qT=>?_)
 refine .sr (.mv ?_)
 refine .vl (Y.qb U U aG) (.vl (Y.wc U U aG) (.mv ?_))
 refine .mv ?_
 refine .vl (Y.qb U U aG) (.vl (Y.zq U U om) (.vl (Y.qb U U aG) (.mv ?_)))
 refine .vl (Y.qb U U aG) (.vl (Y.zq U U om) (.vl (Y.qb U U aG) (.mv ?_)))
 refine .vl (Y.zj U U om) (.mv ?_)
 refine .vl (Y.zj U U om) (.vl (Y.qh mI iE U U U) (.ai bK U U U U U U (aH U) U (.nil (.ret ?_))))
 first | (exfalso; omega) | exact ⟨_,_,rfl,rfl,(8 * x) * x,by rw [show aK op x.toNat = 0 by (try rw [hle]); unfold aK; (repeat' split) <;> omega]; rfl,rfl⟩
 refine .skip (.sr (.mv ?_))
 refine .aZ pV (ea (a:=x) (b:=0) (c:=0)) U (.aj U U (.aj U U (.aj U U .nil))) ae U (.ai bK U U U U U U (aH U) U (.nil (.ret ?_)))
 first | (exfalso; omega) | exact ⟨_,_,rfl,rfl,0,by rw [show aK op x.toNat = 0 by (try rw [hle]); unfold aK; (repeat' split) <;> omega]; rfl,rfl⟩
theorem qB{n:ab}{c:Cell}(hw:∀ w ∈ n.aa,dz w)(kW:jG n c)(ha:c.args.length <= 200):aw Try.prog 99 [.agg (ab.row n),.agg (Cell.row c)] [] [] (fun r o=>r = (vi (l4 n c)) /\ o = []):=by
 refine aw.of Try.func99 U U U (n:=43) ae (aH U) (.sr (.box 102 U U U U U ae ?_))
 refine .box 103 U U U U U ae ?_
 refine .an ?_
 refine .nil (.seq (.seq (.sh (Sh.eQ 102 U U) (.sh (Sh.eQ 103 U U) (.region (.fa dC ?_))))))
 refine .ld bj ?_
 refine .nil (.block (.sr (.vl (Y.ql U U) (.an (.nil ?_)))))
 refine .aA U (fun c8=>?_) (fun c8=>?_)
 refine .sr (.an (.nil (.ret ?_)))
 exact .ri rfl (by unfold l4; rw [if_pos ej])
 refine .sr (.vl (Y.ql U U) (.an (.nil ?_)))
 refine .aA U (fun Ts=>?_) (fun Ts=>?_)
 refine .seq ?_
 have h5:=LP kW ej; have ZV:=h5.1; unfold In at ZV; have h5w:=Gl hw h5.1; have XB:=kW.1 (c.args.getD 0 0) (bC om); have h5v:=Gl hw XB; have ZW:=XB; unfold In at ZW
 refine .region (.fa bO ?_)
 refine .ld bt ?_
 refine .fa eo ?_
 refine .ld bj ?_
 refine .vl (Y.qs (m:=(c.out).toNat) a7 U U om (ao (d:=0) om)) (.ld bj ?_)
 refine .an (.nil ?_)
 refine .iC (fun (vw:Int)=>⟨[(3,.fp (Cell.row c) 0),(5,vi vw)],[]⟩) (fun vw=>vw = (if jY c.op then n.av c 0 else n.wd c.out)) ?_ (fun vw IK=>?_)
 refine .sr (.fa fc ?_)
 refine .ld bj ?_
 refine .aZ OD (mL (w:=c.op)) U (.aj U U .nil) ae U (.nil (.aA U (fun PC=>?_) (fun PC=>?_)))
 exact .gy U au (.val (Y.qp bO U U) ae (.val (Y.za bt U U U U) ae (.val (Y.qp bU U U) ae (.val (Y.za bt U U U U) ae (.val (Y.qs (m:=0) a7 U U bc (ao (d:=0) om)) ae (.val (Y.za bj U U U U) ae (.val (Y.qs (m:=(c.args.getD 0 0).toNat) a7 U U om (ao (d:=0) om)) ae (.val (Y.za bj U U U U) ae (.val (Y.qf U U) ae (.nil ⟨n.aa.getD ((c.args.getD 0 0).toNat) 0,by rw [if_pos ej]; rfl,Le.mk (.c (.cons (ak U bc) .nil)) .nil⟩))))))))))
 refine .skip ⟨n.aa.getD ((c.out).toNat) 0,by rw [if_neg ej]; rfl,Le.mk (.c (.cons (ak U bc) .nil)) .nil⟩
 have h8:1 <= vw /\ vw <= 64:=by (rw [IK]; split <;> assumption)
 refine .sr (.fa fc ?_)
 refine .ld bj ?_
 refine .mv ?_
 refine .oP SL (Bf (op:=c.op) (x:=vw) h5.2.1 h8.1 h8.2) U (.aj U U (.aj U U .nil)) ae ?_
 rintro _ ⟨ZX,rfl,_⟩
 refine ⟨U,(.vl (Y.qo cN bj U U U) (.an (.nil (.ret ?_))))⟩
 exact .ri rfl (by unfold l4; rw [if_neg om,if_pos ej,IK])
 refine .sr (.vl (Y.ql U U) (.an (.nil ?_)))
 refine .aA U (fun xz=>?_) (fun xz=>?_)
 refine .seq ?_
 have QZ:=vj (n:=((c.args.length:Int) / 2).toNat) om
 refine .region (.fa bU ?_)
 refine .ld bt ?_
 refine .vl (Y.qx (n:=c.args.length) a7 U fV) (.vl (Y.zq U U om) (.aZ KV (mn (x:=((c.args.length:Int) / 2)) (om) (om)) U (.aj U U .nil) ae U (.vl (Y.zj U U om) (.vl (Y.qb U U aG) (.an (.nil (.ret ?_)))))))
 exact .ri rfl (by unfold l4; rw [if_neg om,if_neg om,if_pos ej,show ((c.args.length:Int) / 2).toNat = c.args.length / 2 by omega])
 refine .skip (.sr (.an (.nil (.ret ?_))))
 exact .ri rfl (by unfold l4; rw [if_neg om,if_neg om,if_neg om])
end Go.Proofs.Ytlimckldnjmabaa
