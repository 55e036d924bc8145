/- The walk of Made. -/
import Derived.Test.YtlimckldnjmabaaSynx0
import Derived.Test.YtlimckldnjmabaaSynx4
import Derived.Test.YtlimckldnjmabaaAWx2
import Derived.Test.YtlimckldnjmabaaSynx1
import Derived.Test.YtlimckldnjmabaaSynx3
import Derived.Test.YtlimckldnjmabaaSynx2
set_option linter.unusedSimpArgs false
set_option linter.unusedVariables false
set_option linter.unusedSectionVars false
set_option maxRecDepth 4000
set_option maxHeartbeats 8000000
namespace Go.Proofs.Ytlimckldnjmabaa
open Go Go.AW Go.Proofs
theorem Dq{p:nw}(hf:p.Q9)(hk:p.Ok):aw Try.prog 22 [.agg (nw.row p)] [] [] (fun r o=>∃ n,Bu n /\ r = .agg (ae.ij n) /\ o = []):=by
 refine aw.QH Try.func22 U U U (n:=252) ab (aH U) ?_
 have VC:=hf.aD; have QL:=hf.streams; have Pp:=hf.ins; have XI:=hf.parts; have hf5:=hf.cH; have UR:=hk.parts
 refine .sr (.box 101 U U U U U ab (.alloc 102 HD U U ab ?_))
 refine .nil (.sr (.vl (Y.qh Sm HD U U U) (.alloc 103 HD U U ab (.aj Kv U U U U U U (aH U) U (.nil (.seq (.seq (.sh (Sh.iY 101 U U) (.sh (Sh.ew 103 401 1 1 U U U U ab) (.sh (Sh.ew 103 402 6 2 U U U U ab) (.sh (Sh.ew 103 403 1 3 U U U U ab) (.sh (Sh.ew 103 404 5 4 U U U U ab) (.sh (Sh.ew 103 405 3 5 U U U U ab) (.region (.an (.nil (.block ?_)))))))))))))))))
 refine .e8 (fun (dh:Nat) (ei:List Int) (eB:List Cell)=>⟨[(1,.fp (nw.row p) 0),(2,.ptr 102 0 0 0),(3,.ptr 103 0 0 0),(4,vi dh)],[(102,.cells [.v (.string ByteArray.empty),vn,vn,vn,vn,vn,vn,vn,vi 0,vi 0,vn]),(103,.cells [.v (.string nB),.aN 401 1 0 ei.length,.aN 402 6 0 eB.length,.aN 403 1 0 0,.aN 404 5 0 0,.aN 405 3 0 0,vn,vn,vi 0,vi 0,vn]),(401,.rows 1 (ei.map ah)),(402,.rows 6 (eB.map Cell.row)),(403,.rows 1 (([]:List Int).map ah)),(404,.rows 5 (([]:List eQ).map eQ.row)),(405,.rows 3 (([]:List bI).map bI.row))]⟩) (fun dh ei eB=>((dh:Int) <= 8) /\ (ei = yR dh) /\ (eB = Dy dh) /\ (ei.length = dh) /\ (eB.length = dh)) (fun dh ei eB=>(8 - (dh:Int)).toNat) 0 ([]:List Int) ([]:List Cell) (⟨om,U,U,U,U⟩) (Le.mk (.c2 (.c (.cons (ak U aY) .nil))) (.c (.cons (az U eS) (.c4 (.c .nil))))) (fun dh ei eB pK=>?_)
 obtain ⟨CL,UT,J0,UU,UW⟩:=pK
 refine .seq (.sr (.mv ?_))
 refine .vl (Y.zb U U) (.nil (.aB U (fun px=>?_) (fun px=>?_)))
 refine .skip (.seq (.block (.seq (.ea (⟨[(1,.fp (nw.row p) 0),(2,.ptr 102 0 0 0),(3,.ptr 103 0 0 0),(4,.v (.int .i64 (dh:Int)))],[(102,.cells [.v (.string ByteArray.empty),vn,vn,vn,vn,vn,vn,vn,.v (.int .i64 0),.v (.int .i64 0),vn]),(103,.cells [.v (.string nB),.aN 401 1 0 ((ei ++ ([a9 dh]:List Int)).length),.aN 402 6 0 eB.length,.aN 403 1 0 0,.aN 404 5 0 0,.aN 405 3 0 0,vn,vn,.v (.int .i64 0),.v (.int .i64 0),vn]),(401,.rows 1 ((ei ++ ([a9 dh]:List Int)).map ah)),(402,.rows 6 (eB.map Cell.row)),(403,.rows 1 (([]:List Int).map ah)),(404,.rows 5 (([]:List eQ).map eQ.row)),(405,.rows 3 (([]:List bI).map bI.row))]⟩) U ?_ ?_))))
 refine .blind 0 U au (ax.fieldAddr bB U U) ab (.blind 2 U au (ax.move U U) ab ?_)
 refine .blind 3 U au (ax.wc r4 vS U (by first | rfl | exact IntWalk.u8_in _ om)) ab (.yn ?_)
 refine .two 1 4 U U au ?_ ?_
 refine .ld bn ?_
 refine .nil ⟨U,(.one 4 U au (.aR vv (fM (k:=dh)) U (.ai U U .nil) ab U ?_))⟩
 refine .nil ⟨U,(.one 5 U au (.buildSlice (([a9 dh]:List Int).map ah) a7 dG U U U U U (aq (s:=1) (f:=ah) (fun _=>U)) U U U ab ?_))⟩
 refine .nil ⟨U,(.one 6 U au (.cJ ah (ei ++ ([a9 dh]:List Int)) a7 dG U U U U (bh bK) (aV bK) (b8 bK) bK bK ab ab ?_))⟩
 refine .nil ⟨U,(.one 7 U au (.fa bB ?_))⟩
 refine .nil ⟨U,(.one 8 U au (.aj fG U U U U U U (aH U) U ?_))⟩
 exact .nil ⟨U,(.done au (Le.mk (.c2 (.c (.c .nil))) (.c4 (.c2 (.c .nil)))))⟩
 refine .aR vv (fM (k:=dh)) U (.ai U U .nil) ab U ?_
 refine .nil ⟨U,(.two 1 5 U U au ?_ ?_)⟩
 refine .ld bn ?_
 refine .nil ⟨U,(.one 5 U au (.buildSlice (([a9 dh]:List Int).map ah) a7 dG U U U U U (aq (s:=1) (f:=ah) (fun _=>U)) U U U ab ?_))⟩
 refine .nil ⟨U,(.one 6 U au (.cJ ah (ei ++ ([a9 dh]:List Int)) a7 dG U U U U (bh bK) (aV bK) (b8 bK) bK bK ab ab ?_))⟩
 refine .nil ⟨U,(.one 7 U au (.fa bB ?_))⟩
 refine .nil ⟨U,(.one 8 U au (.aj fG U U U U U U (aH U) U ?_))⟩
 exact .nil ⟨U,(.done au (Le.mk (.c2 (.c (.c .nil))) (.c4 (.c2 (.c .nil)))))⟩
 refine .buildSlice (([a9 dh]:List Int).map ah) a7 dG U U U U U (aq (s:=1) (f:=ah) (fun _=>U)) U U U ab ?_
 refine .nil ⟨U,(.one 1 U au (.ld bn ?_))⟩
 refine .nil ⟨U,(.one 6 U au (.cJ ah (ei ++ ([a9 dh]:List Int)) a7 dG U U U U (bh bK) (aV bK) (b8 bK) bK bK ab ab ?_))⟩
 refine .nil ⟨U,(.one 7 U au (.fa bB ?_))⟩
 refine .nil ⟨U,(.one 8 U au (.aj fG U U U U U U (aH U) U ?_))⟩
 exact .nil ⟨U,(.done au (Le.mk (.c2 (.c (.c .nil))) (.c4 (.c2 (.c .nil)))))⟩
 refine .le (ba:=⟨[(1,.fp (nw.row p) 0),(2,.ptr 102 0 0 0),(3,.ptr 103 0 0 0),(4,vi dh)],[(102,.cells [.v (.string ByteArray.empty),vn,vn,vn,vn,vn,vn,vn,vi 0,vi 0,vn]),(103,.cells [.v (.string nB),.aN 401 1 0 ((ei ++ ([a9 dh]:List Int)).length),.aN 402 6 0 eB.length,.aN 403 1 0 0,.aN 404 5 0 0,.aN 405 3 0 0,vn,vn,vi 0,vi 0,vn]),(401,.rows 1 ((ei ++ ([a9 dh]:List Int)).map ah)),(402,.rows 6 (eB.map Cell.row)),(403,.rows 1 (([]:List Int).map ah)),(404,.rows 5 (([]:List eQ).map eQ.row)),(405,.rows 3 (([]:List bI).map bI.row))]⟩) (Le.mk (.c2 (.c (.c .nil))) (.c4 (.c2 (.c .nil)))) (.region (.fa bS ?_))
 refine .ld fU ?_
 refine .mv ?_
 refine .mv ?_
 refine .vl (Y.zr U U om) (.vl (Y.qk r4 wE U (by first | rfl | exact IntWalk.u64_in _ om)) (.vl (Y.qh vu ez U U U) (.sh (Sh.Eo (d:=33) 1 3 U U) (.buildSlice (([(⟨1,0,(dh:Int),([]:List Int),dh % 2,0⟩:Cell)]:List Cell).map Cell.row) dU ez U U U U U (aq (s:=6) (f:=Cell.row) (fun _=>U)) U U U ab ?_))))
 refine .cJ Cell.row (eB ++ ([(⟨1,0,(dh:Int),([]:List Int),dh % 2,0⟩:Cell)]:List Cell)) dU ez U U U U (bh bK) (aV bK) (b8 bK) bK bK ab ab ?_
 refine .fa bS ?_
 refine .aj ti U U U U U U (aH U) U (.nil (.region (.mv ?_)))
 refine .vl (Y.qb U U om) (.an ?_)
 refine .nil (⟨dh + 1,ei ++ ([a9 dh]:List Int),eB ++ ([(⟨1,0,(dh:Int),([]:List Int),dh % 2,0⟩:Cell)]:List Cell),⟨om,by rw [UT]; exact (EA _).symm,by rw [J0]; exact (EB _).symm,by rw [List.length_append,UU]; rfl,by rw [List.length_append,UW]; rfl⟩,om,Le.mk (.c2 (.c (.cons (ak U aY) .nil))) (.c (.cons (az U eS) (.c4 (.c .nil))))⟩)
 refine .exit (.seq (.sr (.an (.nil (.block ?_)))))
 refine .gT (fun (gO:Nat) (bQ:List eQ)=>⟨[(1,.fp (nw.row p) 0),(2,.ptr 102 0 0 0),(3,.ptr 103 0 0 0),(5,vi gO)],[(102,.cells [.v (.string ByteArray.empty),vn,vn,vn,vn,vn,vn,vn,vi 0,vi 0,vn]),(103,.cells [.v (.string nB),.aN 401 1 0 ei.length,.aN 402 6 0 eB.length,.aN 403 1 0 0,.aN 404 5 0 bQ.length,.aN 405 3 0 0,vn,vn,vi 0,vi 0,vn]),(401,.rows 1 (ei.map ah)),(402,.rows 6 (eB.map Cell.row)),(403,.rows 1 (([]:List Int).map ah)),(404,.rows 5 (bQ.map eQ.row)),(405,.rows 3 (([]:List bI).map bI.row))]⟩) (fun gO bQ=>((gO:Int) <= (p.aD.length:Int)) /\ (∀ m ∈ bQ,iP m /\ ∃ k,m.width = a9 k) /\ (bQ.length = gO)) (fun gO bQ=>((p.aD.length:Int) - (gO:Int)).toNat) 0 ([]:List eQ) (⟨om,fun m h=>(by cases h),U⟩) (Le.mk (.c2 (.c (.cons (ak U aY) .nil))) (.c (.cons (az U eS) (.c4 (.c .nil))))) (fun gO bQ YW=>?_)
 obtain ⟨hb8,hm,M0⟩:=YW
 refine .seq (.sr (.mv ?_))
 refine .fa wG ?_
 refine .ld xS ?_
 refine .vl (Y.qw (n:=p.aD.length) xT U dY) (.vl (Y.zb U U) (.nil (.aB U (fun At=>?_) (fun At=>?_))))
 refine .skip (.seq (.block ?_))
 have UX:=hk.aD (p.aD.getD gO default) (getD_in om)
 refine .ea (⟨[(1,.fp (nw.row p) 0),(2,.ptr 102 0 0 0),(3,.ptr 103 0 0 0),(5,.v (.int .i64 (gO:Int)))],[(102,.cells [.v (.string ByteArray.empty),vn,vn,vn,vn,vn,vn,vn,.v (.int .i64 0),.v (.int .i64 0),vn]),(103,.cells [.v (.string nB),.aN 401 1 0 ei.length,.aN 402 6 0 eB.length,.aN 403 1 0 0,.aN 404 5 0 ((bQ ++ ([(⟨mB,a9 ((p.aD.getD gO default).a),1 + ((((p.aD.getD gO default).b:Nat):Int) % 9),0,0⟩:eQ)]:List eQ)).length),.aN 405 3 0 0,vn,vn,.v (.int .i64 0),.v (.int .i64 0),vn]),(401,.rows 1 (ei.map ah)),(402,.rows 6 (eB.map Cell.row)),(403,.rows 1 (([]:List Int).map ah)),(404,.rows 5 ((bQ ++ ([(⟨mB,a9 ((p.aD.getD gO default).a),1 + ((((p.aD.getD gO default).b:Nat):Int) % 9),0,0⟩:eQ)]:List eQ)).map eQ.row)),(405,.rows 3 (([]:List bI).map bI.row))]⟩) U ?_ ?_
 refine .blind 0 U au (ax.fieldAddr eK U U) ab (.blind 2 U au (ax.fieldAddr wG U U) ab (.load 3 U au xS U U U U U ab ?_))
 refine .blind 4 U au (ax.move U U) ab (.blind 5 U au (ax.kj (m:=gO) xT U U aY (ao (d:=default) om)) ab ?_)
 refine .blind 6 U au (ax.lN Hy U U (m:=0) U om U) ab (.load 7 U au sQ U U U U U ab (.blind 9 U au (ax.fieldAddr wG U U) ab ?_))
 refine .load 10 U au xS U U U U U ab (.blind 11 U au (ax.move U U) ab ?_)
 refine .blind 12 U au (ax.kj (m:=gO) xT U U aY (ao (d:=default) om)) ab ?_
 refine .blind 13 U au (ax.lN Hy U U (m:=1) U om U) ab (.load 14 U au sQ U U U U U ab ?_)
 refine .blind 15 U au (ax.FG U U om) ab (.blind 16 U au (ax.wc vS r4 U yO) ab (.blind 17 U au (ax.KU U U om) ab (.yn ?_)))
 refine .two 1 8 U U au ?_ ?_
 refine .ld ln ?_
 refine .nil ⟨U,(.one 8 U au (.aR vv (fM (k:=((p.aD.getD gO default).a))) U (.ai U U .nil) ab U ?_))⟩
 refine .nil ⟨U,(.one 18 U au (.vl (Y.qh EM mX U U U) (.nil ⟨U,(.one 19 U au (.buildSlice (([(⟨mB,a9 ((p.aD.getD gO default).a),1 + ((((p.aD.getD gO default).b:Nat):Int) % 9),0,0⟩:eQ)]:List eQ).map eQ.row) jE mX U U U U U (aq (s:=5) (f:=eQ.row) (fun _=>U)) U U U ab ?_))⟩)))⟩
 refine .nil ⟨U,(.one 20 U au (.cJ eQ.row (bQ ++ ([(⟨mB,a9 ((p.aD.getD gO default).a),1 + ((((p.aD.getD gO default).b:Nat):Int) % 9),0,0⟩:eQ)]:List eQ)) jE mX U U U U (bh bK) (aV bK) (b8 bK) bK bK ab ab ?_))⟩
 refine .nil ⟨U,(.one 21 U au (.fa eK ?_))⟩
 refine .nil ⟨U,(.one 22 U au (.aj HA U U U U U U (aH U) U ?_))⟩
 exact .nil ⟨U,(.done au (Le.mk (.c2 (.c (.c .nil))) (.c4 (.c2 (.c .nil)))))⟩
 refine .aR vv (fM (k:=((p.aD.getD gO default).a))) U (.ai U U .nil) ab U ?_
 refine .nil ⟨U,(.two 1 18 U U au ?_ ?_)⟩
 refine .ld ln ?_
 refine .nil ⟨U,(.one 18 U au (.vl (Y.qh EM mX U U U) (.nil ⟨U,(.one 19 U au (.buildSlice (([(⟨mB,a9 ((p.aD.getD gO default).a),1 + ((((p.aD.getD gO default).b:Nat):Int) % 9),0,0⟩:eQ)]:List eQ).map eQ.row) jE mX U U U U U (aq (s:=5) (f:=eQ.row) (fun _=>U)) U U U ab ?_))⟩)))⟩
 refine .nil ⟨U,(.one 20 U au (.cJ eQ.row (bQ ++ ([(⟨mB,a9 ((p.aD.getD gO default).a),1 + ((((p.aD.getD gO default).b:Nat):Int) % 9),0,0⟩:eQ)]:List eQ)) jE mX U U U U (bh bK) (aV bK) (b8 bK) bK bK ab ab ?_))⟩
 refine .nil ⟨U,(.one 21 U au (.fa eK ?_))⟩
 refine .nil ⟨U,(.one 22 U au (.aj HA U U U U U U (aH U) U ?_))⟩
 exact .nil ⟨U,(.done au (Le.mk (.c2 (.c (.c .nil))) (.c4 (.c2 (.c .nil)))))⟩
 refine .vl (Y.qh EM mX U U U) (.nil ⟨U,(.two 1 19 U U au ?_ ?_)⟩)
 refine .ld ln ?_
 refine .nil ⟨U,(.one 19 U au (.buildSlice (([(⟨mB,a9 ((p.aD.getD gO default).a),1 + ((((p.aD.getD gO default).b:Nat):Int) % 9),0,0⟩:eQ)]:List eQ).map eQ.row) jE mX U U U U U (aq (s:=5) (f:=eQ.row) (fun _=>U)) U U U ab ?_))⟩
 refine .nil ⟨U,(.one 20 U au (.cJ eQ.row (bQ ++ ([(⟨mB,a9 ((p.aD.getD gO default).a),1 + ((((p.aD.getD gO default).b:Nat):Int) % 9),0,0⟩:eQ)]:List eQ)) jE mX U U U U (bh bK) (aV bK) (b8 bK) bK bK ab ab ?_))⟩
 refine .nil ⟨U,(.one 21 U au (.fa eK ?_))⟩
 refine .nil ⟨U,(.one 22 U au (.aj HA U U U U U U (aH U) U ?_))⟩
 exact .nil ⟨U,(.done au (Le.mk (.c2 (.c (.c .nil))) (.c4 (.c2 (.c .nil)))))⟩
 refine .buildSlice (([(⟨mB,a9 ((p.aD.getD gO default).a),1 + ((((p.aD.getD gO default).b:Nat):Int) % 9),0,0⟩:eQ)]:List eQ).map eQ.row) jE mX U U U U U (aq (s:=5) (f:=eQ.row) (fun _=>U)) U U U ab ?_
 refine .nil ⟨U,(.one 1 U au (.ld ln ?_))⟩
 refine .nil ⟨U,(.one 20 U au (.cJ eQ.row (bQ ++ ([(⟨mB,a9 ((p.aD.getD gO default).a),1 + ((((p.aD.getD gO default).b:Nat):Int) % 9),0,0⟩:eQ)]:List eQ)) jE mX U U U U (bh bK) (aV bK) (b8 bK) bK bK ab ab ?_))⟩
 refine .nil ⟨U,(.one 21 U au (.fa eK ?_))⟩
 refine .nil ⟨U,(.one 22 U au (.aj HA U U U U U U (aH U) U ?_))⟩
 exact .nil ⟨U,(.done au (Le.mk (.c2 (.c (.c .nil))) (.c4 (.c2 (.c .nil)))))⟩
 refine .region (.mv ?_)
 refine .vl (Y.qb U U om) (.an ?_)
 refine .nil (⟨gO + 1,bQ ++ ([(⟨mB,a9 ((p.aD.getD gO default).a),1 + ((((p.aD.getD gO default).b:Nat):Int) % 9),0,0⟩:eQ)]:List eQ),⟨om,tA hm (zY om),by rw [List.length_append,M0]; rfl⟩,om,Le.mk (.c2 (.c (.cons (ak U aY) .nil))) (.c (.cons (az U eS) (.c4 (.c .nil))))⟩)
 refine .exit (.seq (.sr (.an (.nil (.block ?_)))))
 refine .gT (fun (et:Nat) (bs:List bI)=>⟨[(1,.fp (nw.row p) 0),(2,.ptr 102 0 0 0),(3,.ptr 103 0 0 0),(6,vi et)],[(102,.cells [.v (.string ByteArray.empty),vn,vn,vn,vn,vn,vn,vn,vi 0,vi 0,vn]),(103,.cells [.v (.string nB),.aN 401 1 0 ei.length,.aN 402 6 0 eB.length,.aN 403 1 0 0,.aN 404 5 0 bQ.length,.aN 405 3 0 bs.length,vn,vn,vi 0,vi 0,vn]),(401,.rows 1 (ei.map ah)),(402,.rows 6 (eB.map Cell.row)),(403,.rows 1 (([]:List Int).map ah)),(404,.rows 5 (bQ.map eQ.row)),(405,.rows 3 (bs.map bI.row))]⟩) (fun et bs=>((et:Int) <= (p.streams.length:Int)) /\ (∀ m ∈ bs,lH m.name /\ ∃ k,m.width = a9 k) /\ (bs.length = et)) (fun et bs=>((p.streams.length:Int) - (et:Int)).toNat) 0 ([]:List bI) (⟨om,fun m h=>(by cases h),U⟩) (Le.mk (.c2 (.c (.cons (ak U aY) .nil))) (.c (.cons (az U eS) (.c4 (.c .nil))))) (fun et bs L1=>?_)
 obtain ⟨YX,hs,Mj⟩:=L1
 refine .seq (.sr (.mv ?_))
 refine .fa wH ?_
 refine .ld xS ?_
 refine .vl (Y.qw (n:=p.streams.length) xT U dY) (.vl (Y.zb U U) (.nil (.aB U (fun Tz=>?_) (fun Tz=>?_))))
 refine .skip (.seq (.block ?_))
 have UX:=hk.streams (p.streams.getD et default) (getD_in om)
 refine .ea (⟨[(1,.fp (nw.row p) 0),(2,.ptr 102 0 0 0),(3,.ptr 103 0 0 0),(6,.v (.int .i64 (et:Int)))],[(102,.cells [.v (.string ByteArray.empty),vn,vn,vn,vn,vn,vn,vn,.v (.int .i64 0),.v (.int .i64 0),vn]),(103,.cells [.v (.string nB),.aN 401 1 0 ei.length,.aN 402 6 0 eB.length,.aN 403 1 0 0,.aN 404 5 0 bQ.length,.aN 405 3 0 ((bs ++ ([(⟨sB,a9 ((p.streams.getD et default).a),decide (((((p.streams.getD et default).b:Nat):Int) % 2) = 1)⟩:bI)]:List bI)).length),vn,vn,.v (.int .i64 0),.v (.int .i64 0),vn]),(401,.rows 1 (ei.map ah)),(402,.rows 6 (eB.map Cell.row)),(403,.rows 1 (([]:List Int).map ah)),(404,.rows 5 (bQ.map eQ.row)),(405,.rows 3 ((bs ++ ([(⟨sB,a9 ((p.streams.getD et default).a),decide (((((p.streams.getD et default).b:Nat):Int) % 2) = 1)⟩:bI)]:List bI)).map bI.row))]⟩) U ?_ ?_
 refine .blind 0 U au (ax.fieldAddr cK U U) ab (.blind 2 U au (ax.fieldAddr wH U U) ab (.load 3 U au xS U U U U U ab ?_))
 refine .blind 4 U au (ax.move U U) ab (.blind 5 U au (ax.kj (m:=et) xT U U aY (ao (d:=default) om)) ab ?_)
 refine .blind 6 U au (ax.lN Hy U U (m:=0) U om U) ab (.load 7 U au sQ U U U U U ab (.blind 9 U au (ax.fieldAddr wH U U) ab ?_))
 refine .load 10 U au xS U U U U U ab (.blind 11 U au (ax.move U U) ab ?_)
 refine .blind 12 U au (ax.kj (m:=et) xT U U aY (ao (d:=default) om)) ab ?_
 refine .blind 13 U au (ax.lN Hy U U (m:=1) U om U) ab (.load 14 U au sQ U U U U U ab ?_)
 refine .blind 15 U au (ax.FG U U om) ab ?_
 refine .blind 16 U au (ax.eql U U) ab (.yn ?_)
 refine .two 1 8 U U au ?_ ?_
 refine .ld gy ?_
 refine .nil ⟨U,(.one 8 U au (.aR vv (fM (k:=((p.streams.getD et default).a))) U (.ai U U .nil) ab U ?_))⟩
 refine .nil ⟨U,(.one 17 U au (.vl (Y.qh EN mj U U U) (.nil ⟨U,(.one 18 U au (.buildSlice (([(⟨sB,a9 ((p.streams.getD et default).a),decide (((((p.streams.getD et default).b:Nat):Int) % 2) = 1)⟩:bI)]:List bI).map bI.row) fu mj U U U U U (aq (s:=3) (f:=bI.row) (fun _=>U)) U U U ab ?_))⟩)))⟩
 refine .nil ⟨U,(.one 19 U au (.cJ bI.row (bs ++ ([(⟨sB,a9 ((p.streams.getD et default).a),decide (((((p.streams.getD et default).b:Nat):Int) % 2) = 1)⟩:bI)]:List bI)) fu mj U U U U (bh bK) (aV bK) (b8 bK) bK bK ab ab ?_))⟩
 refine .nil ⟨U,(.one 20 U au (.fa cK ?_))⟩
 refine .nil ⟨U,(.one 21 U au (.aj HB U U U U U U (aH U) U ?_))⟩
 exact .nil ⟨U,(.done au (Le.mk (.c2 (.c (.c .nil))) (.c4 (.c2 (.c .nil)))))⟩
 refine .aR vv (fM (k:=((p.streams.getD et default).a))) U (.ai U U .nil) ab U ?_
 refine .nil ⟨U,(.two 1 17 U U au ?_ ?_)⟩
 refine .ld gy ?_
 refine .nil ⟨U,(.one 17 U au (.vl (Y.qh EN mj U U U) (.nil ⟨U,(.one 18 U au (.buildSlice (([(⟨sB,a9 ((p.streams.getD et default).a),decide (((((p.streams.getD et default).b:Nat):Int) % 2) = 1)⟩:bI)]:List bI).map bI.row) fu mj U U U U U (aq (s:=3) (f:=bI.row) (fun _=>U)) U U U ab ?_))⟩)))⟩
 refine .nil ⟨U,(.one 19 U au (.cJ bI.row (bs ++ ([(⟨sB,a9 ((p.streams.getD et default).a),decide (((((p.streams.getD et default).b:Nat):Int) % 2) = 1)⟩:bI)]:List bI)) fu mj U U U U (bh bK) (aV bK) (b8 bK) bK bK ab ab ?_))⟩
 refine .nil ⟨U,(.one 20 U au (.fa cK ?_))⟩
 refine .nil ⟨U,(.one 21 U au (.aj HB U U U U U U (aH U) U ?_))⟩
 exact .nil ⟨U,(.done au (Le.mk (.c2 (.c (.c .nil))) (.c4 (.c2 (.c .nil)))))⟩
 refine .vl (Y.qh EN mj U U U) (.nil ⟨U,(.two 1 18 U U au ?_ ?_)⟩)
 refine .ld gy ?_
 refine .nil ⟨U,(.one 18 U au (.buildSlice (([(⟨sB,a9 ((p.streams.getD et default).a),decide (((((p.streams.getD et default).b:Nat):Int) % 2) = 1)⟩:bI)]:List bI).map bI.row) fu mj U U U U U (aq (s:=3) (f:=bI.row) (fun _=>U)) U U U ab ?_))⟩
 refine .nil ⟨U,(.one 19 U au (.cJ bI.row (bs ++ ([(⟨sB,a9 ((p.streams.getD et default).a),decide (((((p.streams.getD et default).b:Nat):Int) % 2) = 1)⟩:bI)]:List bI)) fu mj U U U U (bh bK) (aV bK) (b8 bK) bK bK ab ab ?_))⟩
 refine .nil ⟨U,(.one 20 U au (.fa cK ?_))⟩
 refine .nil ⟨U,(.one 21 U au (.aj HB U U U U U U (aH U) U ?_))⟩
 exact .nil ⟨U,(.done au (Le.mk (.c2 (.c (.c .nil))) (.c4 (.c2 (.c .nil)))))⟩
 refine .buildSlice (([(⟨sB,a9 ((p.streams.getD et default).a),decide (((((p.streams.getD et default).b:Nat):Int) % 2) = 1)⟩:bI)]:List bI).map bI.row) fu mj U U U U U (aq (s:=3) (f:=bI.row) (fun _=>U)) U U U ab ?_
 refine .nil ⟨U,(.one 1 U au (.ld gy ?_))⟩
 refine .nil ⟨U,(.one 19 U au (.cJ bI.row (bs ++ ([(⟨sB,a9 ((p.streams.getD et default).a),decide (((((p.streams.getD et default).b:Nat):Int) % 2) = 1)⟩:bI)]:List bI)) fu mj U U U U (bh bK) (aV bK) (b8 bK) bK bK ab ab ?_))⟩
 refine .nil ⟨U,(.one 20 U au (.fa cK ?_))⟩
 refine .nil ⟨U,(.one 21 U au (.aj HB U U U U U U (aH U) U ?_))⟩
 exact .nil ⟨U,(.done au (Le.mk (.c2 (.c (.c .nil))) (.c4 (.c2 (.c .nil)))))⟩
 refine .region (.mv ?_)
 refine .vl (Y.qb U U om) (.an ?_)
 refine .nil (⟨et + 1,bs ++ ([(⟨sB,a9 ((p.streams.getD et default).a),decide (((((p.streams.getD et default).b:Nat):Int) % 2) = 1)⟩:bI)]:List bI),⟨om,tA hs zZ,by rw [List.length_append,Mj]; rfl⟩,om,Le.mk (.c2 (.c (.cons (ak U aY) .nil))) (.c (.cons (az U eS) (.c4 (.c .nil))))⟩)
 refine .exit (.seq (.sr (.an (.nil (.block ?_)))))
 refine .gT (fun (iw:Nat) (bG:List Int)=>⟨[(1,.fp (nw.row p) 0),(2,.ptr 102 0 0 0),(3,.ptr 103 0 0 0),(7,vi iw)],[(102,.cells [.v (.string ByteArray.empty),vn,vn,vn,vn,vn,vn,vn,vi 0,vi 0,vn]),(103,.cells [.v (.string nB),.aN 401 1 0 ei.length,.aN 402 6 0 eB.length,.aN 403 1 0 bG.length,.aN 404 5 0 bQ.length,.aN 405 3 0 bs.length,vn,vn,vi 0,vi 0,vn]),(401,.rows 1 (ei.map ah)),(402,.rows 6 (eB.map Cell.row)),(403,.rows 1 (bG.map ah)),(404,.rows 5 (bQ.map eQ.row)),(405,.rows 3 (bs.map bI.row))]⟩) (fun iw bG=>((iw:Int) <= (p.ins.length:Int)) /\ (∀ m ∈ bG,∃ k,m = a9 k) /\ (bG.length = iw)) (fun iw bG=>((p.ins.length:Int) - (iw:Int)).toNat) 0 ([]:List Int) (⟨om,fun m h=>(by cases h),U⟩) (Le.mk (.c2 (.c (.cons (ak U aY) .nil))) (.c (.cons (az U eS) (.c4 (.c .nil))))) (fun iw bG FW=>?_)
 obtain ⟨Pz,pG,zC⟩:=FW
 refine .seq (.sr (.mv ?_))
 refine .fa Ab ?_
 refine .ld CF ?_
 refine .vl (Y.qw (n:=p.ins.length) CG U dY) (.vl (Y.zb U U) (.nil (.aB U (fun oo=>?_) (fun oo=>?_))))
 refine .skip (.seq (.block ?_))
 have UX:=hk.ins (p.ins.getD iw 0) (getD_in om)
 refine .ea (⟨[(1,.fp (nw.row p) 0),(2,.ptr 102 0 0 0),(3,.ptr 103 0 0 0),(7,.v (.int .i64 (iw:Int)))],[(102,.cells [.v (.string ByteArray.empty),vn,vn,vn,vn,vn,vn,vn,.v (.int .i64 0),.v (.int .i64 0),vn]),(103,.cells [.v (.string nB),.aN 401 1 0 ei.length,.aN 402 6 0 eB.length,.aN 403 1 0 ((bG ++ ([a9 (p.ins.getD iw 0)]:List Int)).length),.aN 404 5 0 bQ.length,.aN 405 3 0 bs.length,vn,vn,.v (.int .i64 0),.v (.int .i64 0),vn]),(401,.rows 1 (ei.map ah)),(402,.rows 6 (eB.map Cell.row)),(403,.rows 1 ((bG ++ ([a9 (p.ins.getD iw 0)]:List Int)).map ah)),(404,.rows 5 (bQ.map eQ.row)),(405,.rows 3 (bs.map bI.row))]⟩) U ?_ ?_
 refine .blind 0 U au (ax.fieldAddr jf U U) ab (.blind 2 U au (ax.fieldAddr Ab U U) ab (.load 3 U au CF U U U U U ab ?_))
 refine .blind 4 U au (ax.move U U) ab (.blind 5 U au (ax.kj (m:=iw) CG U U aY (ao (d:=0) om)) ab ?_)
 refine .load 6 U au sQ U U U U U ab (.yn ?_)
 refine .two 1 7 U U au ?_ ?_
 refine .ld bn ?_
 refine .nil ⟨U,(.one 7 U au (.aR vv (fM (k:=(p.ins.getD iw 0))) U (.ai U U .nil) ab U ?_))⟩
 refine .nil ⟨U,(.one 8 U au (.buildSlice (([a9 (p.ins.getD iw 0)]:List Int).map ah) a7 dG U U U U U (aq (s:=1) (f:=ah) (fun _=>U)) U U U ab ?_))⟩
 refine .nil ⟨U,(.one 9 U au (.cJ ah (bG ++ ([a9 (p.ins.getD iw 0)]:List Int)) a7 dG U U U U (bh bK) (aV bK) (b8 bK) bK bK ab ab ?_))⟩
 refine .nil ⟨U,(.one 10 U au (.fa jf ?_))⟩
 refine .nil ⟨U,(.one 11 U au (.aj fG U U U U U U (aH U) U ?_))⟩
 exact .nil ⟨U,(.done au (Le.mk (.c2 (.c (.c .nil))) (.c4 (.c2 (.c .nil)))))⟩
 refine .aR vv (fM (k:=(p.ins.getD iw 0))) U (.ai U U .nil) ab U ?_
 refine .nil ⟨U,(.two 1 8 U U au ?_ ?_)⟩
 refine .ld bn ?_
 refine .nil ⟨U,(.one 8 U au (.buildSlice (([a9 (p.ins.getD iw 0)]:List Int).map ah) a7 dG U U U U U (aq (s:=1) (f:=ah) (fun _=>U)) U U U ab ?_))⟩
 refine .nil ⟨U,(.one 9 U au (.cJ ah (bG ++ ([a9 (p.ins.getD iw 0)]:List Int)) a7 dG U U U U (bh bK) (aV bK) (b8 bK) bK bK ab ab ?_))⟩
 refine .nil ⟨U,(.one 10 U au (.fa jf ?_))⟩
 refine .nil ⟨U,(.one 11 U au (.aj fG U U U U U U (aH U) U ?_))⟩
 exact .nil ⟨U,(.done au (Le.mk (.c2 (.c (.c .nil))) (.c4 (.c2 (.c .nil)))))⟩
 refine .buildSlice (([a9 (p.ins.getD iw 0)]:List Int).map ah) a7 dG U U U U U (aq (s:=1) (f:=ah) (fun _=>U)) U U U ab ?_
 refine .nil ⟨U,(.one 1 U au (.ld bn ?_))⟩
 refine .nil ⟨U,(.one 9 U au (.cJ ah (bG ++ ([a9 (p.ins.getD iw 0)]:List Int)) a7 dG U U U U (bh bK) (aV bK) (b8 bK) bK bK ab ab ?_))⟩
 refine .nil ⟨U,(.one 10 U au (.fa jf ?_))⟩
 refine .nil ⟨U,(.one 11 U au (.aj fG U U U U U U (aH U) U ?_))⟩
 exact .nil ⟨U,(.done au (Le.mk (.c2 (.c (.c .nil))) (.c4 (.c2 (.c .nil)))))⟩
 refine .region (.mv ?_)
 refine .vl (Y.qb U U om) (.an ?_)
 refine .nil (⟨iw + 1,bG ++ ([a9 (p.ins.getD iw 0)]:List Int),⟨om,tA pG ⟨_,U⟩,by rw [List.length_append,zC]; rfl⟩,om,Le.mk (.c2 (.c (.cons (ak U aY) .nil))) (.c (.cons (az U eS) (.c4 (.c .nil))))⟩)
 refine .exit (.seq (.seq (.sh (Sh.oO 103 403 3 U U U (aW om) (cM.map aI) ab U U U) (.sh (Sh.oO 103 404 4 U U U (aW om) (cM.map eQ.bE) ab U U U) (.sh (Sh.oO 103 405 5 U U U (aW om) (cM.map bI.bE) ab U U U) (.region (.an (.nil (.block ?_)))))))))
 refine .e8 (fun (jM:Nat) (aA:List Int) (bH:List Cell)=>⟨[(1,.fp (nw.row p) 0),(2,.ptr 102 0 0 0),(3,.ptr 103 0 0 0),(8,vi jM)],[(102,.cells [.v (.string ByteArray.empty),vn,vn,vn,vn,vn,vn,vn,vi 0,vi 0,vn]),(103,.cells [.v (.string nB),.aN 401 1 0 aA.length,.aN 402 6 0 bH.length,.fz 1 (bG.map ah),.fz 5 (bQ.map eQ.row),.fz 3 (bs.map bI.row),vn,vn,vi 0,vi 0,vn]),(401,.rows 1 (aA.map ah)),(402,.rows 6 (bH.map Cell.row))]⟩) (fun jM aA bH=>((jM:Int) <= (p.parts.length:Int)) /\ (Gr (pn aA bH bG bQ bs)) /\ (8 <= bH.length /\ bH.length <= 8 + jM) /\ (8 <= aA.length /\ aA.length <= 8 + jM)) (fun jM aA bH=>((p.parts.length:Int) - (jM:Int)).toNat) 0 ei eB (⟨om,by rw [UT,J0,show dh = 8 by omega]; exact X2 (fun m h=>(hm m h).2) (fun m h=>(hs m h).2) pG,by rw [J0,Hu]; omega,by rw [UT,r3]; omega⟩) (Le.mk (.c2 (.c (.cons (ak U aY) .nil))) (.c (.cons (az U eS) (.c (.c .nil))))) (fun jM aA bH LH=>?_)
 obtain ⟨Ut,nT,vh,xy⟩:=LH
 refine .seq (.sr (.mv ?_))
 refine .fa qG ?_
 refine .ld Ad ?_
 refine .vl (Y.qw (n:=p.parts.length) Ae U dY) (.vl (Y.zb U U) (.nil (.aB U (fun vc=>?_) (fun vc=>?_))))
 refine .skip (.kY (fun (kQ:List Int) (kR:List Cell)=>⟨[(1,.fp (nw.row p) 0),(2,.ptr 102 0 0 0),(3,.ptr 103 0 0 0),(8,vi jM)],[(102,.cells [.v (.string ByteArray.empty),vn,vn,vn,vn,vn,vn,vn,vi 0,vi 0,vn]),(103,.cells [.v (.string nB),.aN 401 1 0 kQ.length,.aN 402 6 0 kR.length,.fz 1 (bG.map ah),.fz 5 (bQ.map eQ.row),.fz 3 (bs.map bI.row),vn,vn,vi 0,vi 0,vn]),(401,.rows 1 (kQ.map ah)),(402,.rows 6 (kR.map Cell.row))]⟩) (fun kQ kR=>Gr (pn kQ kR bG bQ bs) /\ (8 <= kR.length /\ kR.length <= 8 + (jM + 1)) /\ (8 <= kQ.length /\ kQ.length <= 8 + (jM + 1))) ?_ (fun kQ kR FO=>?_))
 refine .block (.seq (.jh [103] [102,103,401,402] U ?_))
 refine .fW 0 U au fF U U U (aH U) U U ab (.blind 1 U au (ax.fieldAddr qG U U) ab (.load 2 U au Ad U U U U U ab ?_))
 refine .blind 3 U au (ax.move U U) ab (.blind 4 U au (ax.kj (m:=jM) Ae U U aY (ao (d:=default) om)) ab ?_)
 refine .fW 5 U au EO U U U (aH U) U U ab (.J2 U U (cv.cells U U U cv.nil) ?_)
 refine .two 6 10 U U au ?_ ?_
 refine .El [401,402] O4 (wx (n:=(⟨nB,aA,bH,bG,bQ,bs,[],[],0,0,[]⟩:ae)) (p:=(p.parts.getD jM default)) (by show (aA).length <= 1048576; omega) (by show 0 < (aA).length; omega) (UR _ (getD_in om)) nT.ground (by show (bG).length <= 1048576; omega)) U (.agg (.ai U U (.cE U U (bz om) (b5 om) (.cE U U (bz om) (b5 om) (.ai U U (.ai U U (.ai U U (.ai U U (.ai U U (.ai U U (.ai U U (.ai U U .nil))))))))))) U (.ai U U .nil)) (eU U (bj aI) (jA U (bj Cell.bE))) ab ?_
 rintro _ ⟨aS,kS,gF,rfl,_⟩
 refine ⟨U,⟨⟨trivial,trivial,trivial,(lC oF _),trivial,trivial,trivial⟩,trivial,trivial⟩,(.nil ⟨U,(.two 7 10 U U au ?_ ?_)⟩)⟩
 refine .oE U ab ?_
 refine .nil ⟨U,(.blind 9 U au (ax.extract U U U) ab ?_)⟩
 refine .two 8 10 U U au ?_ ?_
 refine .iO U U ab ?_
 refine .nil ⟨U,(.one 10 U au (.alloc 109 ez U U ab ?_))⟩
 refine .nil ⟨U,(.one 11 U au (.sh (Sh.rm (d:=127) (y:=.agg [.v (.int .i64 aS.kind),.v (.int .i64 aS.op),.v (.int .i64 aS.out),.fz 1 (aS.args.map ah),.v (.int .u64 (aS.num:Int)),.v (.int .i64 aS.mem)]) U (by show X.n8 (.agg [.v (.int .i64 aS.kind),.v (.int .i64 aS.op),.v (.int .i64 aS.out),.dK 1 (aS.args.map ah),.v (.int .u64 (aS.num:Int)),.v (.int .i64 aS.mem)]) = _; simp only [X.n8,X.kF,X.lE (cM.map aI)])) (.aj gi U U U U U U (aH U) U ?_)))⟩
 refine .nil ⟨U,(.one 12 U au (.an (.nil ⟨U,?_⟩)))⟩
 refine .done au (.le (ba:=⟨[(1,.fp (nw.row p) 0),(2,.ptr 102 0 0 0),(3,.ptr 103 0 0 0),(8,vi jM),(9,.ptr 109 0 0 0),(10,vi kS)],[(102,.cells [.v (.string ByteArray.empty),vn,vn,vn,vn,vn,vn,vn,vi 0,vi 0,vn]),(103,.cells [.v (.string nB),.aN 401 1 0 aA.length,.aN 402 6 0 bH.length,.fz 1 (bG.map ah),.fz 5 (bQ.map eQ.row),.fz 3 (bs.map bI.row),vn,vn,vi 0,vi 0,vn]),(109,.cells [vi aS.kind,vi aS.op,vi aS.out,.fz 1 (aS.args.map ah),.v (.int .u64 (aS.num:Int)),vi aS.mem]),(401,.rows 1 (aA.map ah)),(402,.rows 6 (bH.map Cell.row))]⟩) (Le.mk (.c4 (.c (.c .nil))) (.c4 (.c .nil))) (.sr (.fa ck ?_)))
 refine .ld bg ?_
 refine .vl (Y.zj U U) (.nil (.aB U (fun oR=>?_) (fun oR=>?_)))
 refine .seq (.sr (.fa ck ?_))
 refine .ld bg ?_
 refine .vl (Y.zj U U) (.nil (.aB U (fun AV=>?_) (fun AV=>?_)))
 refine .sr (.fa bB ?_)
 refine .ld bn ?_
 refine .vl (Y.qw (n:=aA.length) a7 U U) (.fa eg ?_)
 refine .aj dT U U U U U U (aH U) U (.nil (.region (.fa bB ?_)))
 refine .ld bn ?_
 refine .mv ?_
 refine .buildSlice (([kS]:List Int).map ah) a7 dG U U U U U (aq (s:=1) (f:=ah) (fun _=>U)) U U U ab ?_
 refine .cJ ah (aA ++ ([kS]:List Int)) a7 dG U U U U (bh bK) (aV bK) (b8 bK) bK bK ab ab ?_
 refine .fa bB ?_
 refine .aj fG U U U U U U (aH U) U (.nil (.region (.fa bS ?_)))
 refine .ld fU ?_
 refine .vl (Y.za fq U U (aH U) U U) (.buildSlice (([(⟨aS.kind,aS.op,(aA.length:Int),aS.args,aS.num,aS.mem⟩:Cell)]:List Cell).map Cell.row) dU ez U U U U U (aq (s:=6) (f:=Cell.row) (fun _=>U)) U U U ab ?_)
 refine .cJ Cell.row (bH ++ ([(⟨aS.kind,aS.op,(aA.length:Int),aS.args,aS.num,aS.mem⟩:Cell)]:List Cell)) dU ez U U U U (bh bK) (aV bK) (b8 bK) bK bK ab ab ?_
 refine .fa bS ?_
 exact .aj ti U U U U U U (aH U) U (.nil (⟨aA ++ ([kS]:List Int),bH ++ ([(⟨aS.kind,aS.op,(aA.length:Int),aS.args,aS.num,aS.mem⟩:Cell)]:List Cell),by first | exact ⟨nT.add om (gF.resolve_left bO) bO,ov,ov⟩ | exact ⟨nT.tg om (gF.resolve_left bO) (Classical.not_not.1 bO),ov,om⟩ | exact ⟨nT,om,om⟩,Le.mk (.c2 (.c (.c .nil))) (.c (.cons (az U eS) (.c (.c .nil))))⟩))
 refine .skip (.region (.fa bS ?_))
 refine .ld fU ?_
 refine .vl (Y.za fq U U (aH U) U U) (.buildSlice (([aS]:List Cell).map Cell.row) dU ez U U U U U (aq (s:=6) (f:=Cell.row) (fun _=>U)) U U U ab ?_)
 refine .cJ Cell.row (bH ++ ([aS]:List Cell)) dU ez U U U U (bh bK) (aV bK) (b8 bK) bK bK ab ab ?_
 refine .fa bS ?_
 exact .aj ti U U U U U U (aH U) U (.nil (⟨aA,bH ++ ([aS]:List Cell),by first | exact ⟨nT.add om (gF.resolve_left bO) bO,ov,ov⟩ | exact ⟨nT.tg om (gF.resolve_left bO) (Classical.not_not.1 bO),ov,om⟩ | exact ⟨nT,om,om⟩,Le.mk (.c2 (.c (.c .nil))) (.c (.cons (az U eS) (.c (.c .nil))))⟩))
 refine .skip (⟨aA,bH,by first | exact ⟨nT.add om (gF.resolve_left bO) bO,ov,ov⟩ | exact ⟨nT.tg om (gF.resolve_left bO) (Classical.not_not.1 bO),ov,om⟩ | exact ⟨nT,om,om⟩,Le.mk (.c2 (.c (.c .nil))) (.c (.cons (az U eS) (.c (.c .nil))))⟩)
 refine .alloc 109 ez U U ab ?_
 refine .nil ⟨U,(.one 8 U au (.iO U U ab ?_))⟩
 refine .nil ⟨U,(.one 11 U au (.sh (Sh.rm (d:=127) (y:=.agg [.v (.int .i64 aS.kind),.v (.int .i64 aS.op),.v (.int .i64 aS.out),.fz 1 (aS.args.map ah),.v (.int .u64 (aS.num:Int)),.v (.int .i64 aS.mem)]) U (by show X.n8 (.agg [.v (.int .i64 aS.kind),.v (.int .i64 aS.op),.v (.int .i64 aS.out),.dK 1 (aS.args.map ah),.v (.int .u64 (aS.num:Int)),.v (.int .i64 aS.mem)]) = _; simp only [X.n8,X.kF,X.lE (cM.map aI)])) (.aj gi U U U U U U (aH U) U ?_)))⟩
 refine .nil ⟨U,(.one 12 U au (.an (.nil ⟨U,?_⟩)))⟩
 refine .done au (.le (ba:=⟨[(1,.fp (nw.row p) 0),(2,.ptr 102 0 0 0),(3,.ptr 103 0 0 0),(8,vi jM),(9,.ptr 109 0 0 0),(10,vi kS)],[(102,.cells [.v (.string ByteArray.empty),vn,vn,vn,vn,vn,vn,vn,vi 0,vi 0,vn]),(103,.cells [.v (.string nB),.aN 401 1 0 aA.length,.aN 402 6 0 bH.length,.fz 1 (bG.map ah),.fz 5 (bQ.map eQ.row),.fz 3 (bs.map bI.row),vn,vn,vi 0,vi 0,vn]),(109,.cells [vi aS.kind,vi aS.op,vi aS.out,.fz 1 (aS.args.map ah),.v (.int .u64 (aS.num:Int)),vi aS.mem]),(401,.rows 1 (aA.map ah)),(402,.rows 6 (bH.map Cell.row))]⟩) (Le.mk (.c4 (.c (.c .nil))) (.c4 (.c .nil))) (.sr (.fa ck ?_)))
 refine .ld bg ?_
 refine .vl (Y.zj U U) (.nil (.aB U (fun oR=>?_) (fun oR=>?_)))
 refine .seq (.sr (.fa ck ?_))
 refine .ld bg ?_
 refine .vl (Y.zj U U) (.nil (.aB U (fun AV=>?_) (fun AV=>?_)))
 refine .sr (.fa bB ?_)
 refine .ld bn ?_
 refine .vl (Y.qw (n:=aA.length) a7 U U) (.fa eg ?_)
 refine .aj dT U U U U U U (aH U) U (.nil (.region (.fa bB ?_)))
 refine .ld bn ?_
 refine .mv ?_
 refine .buildSlice (([kS]:List Int).map ah) a7 dG U U U U U (aq (s:=1) (f:=ah) (fun _=>U)) U U U ab ?_
 refine .cJ ah (aA ++ ([kS]:List Int)) a7 dG U U U U (bh bK) (aV bK) (b8 bK) bK bK ab ab ?_
 refine .fa bB ?_
 refine .aj fG U U U U U U (aH U) U (.nil (.region (.fa bS ?_)))
 refine .ld fU ?_
 refine .vl (Y.za fq U U (aH U) U U) (.buildSlice (([(⟨aS.kind,aS.op,(aA.length:Int),aS.args,aS.num,aS.mem⟩:Cell)]:List Cell).map Cell.row) dU ez U U U U U (aq (s:=6) (f:=Cell.row) (fun _=>U)) U U U ab ?_)
 refine .cJ Cell.row (bH ++ ([(⟨aS.kind,aS.op,(aA.length:Int),aS.args,aS.num,aS.mem⟩:Cell)]:List Cell)) dU ez U U U U (bh bK) (aV bK) (b8 bK) bK bK ab ab ?_
 refine .fa bS ?_
 exact .aj ti U U U U U U (aH U) U (.nil (⟨aA ++ ([kS]:List Int),bH ++ ([(⟨aS.kind,aS.op,(aA.length:Int),aS.args,aS.num,aS.mem⟩:Cell)]:List Cell),by first | exact ⟨nT.add om (gF.resolve_left bO) bO,ov,ov⟩ | exact ⟨nT.tg om (gF.resolve_left bO) (Classical.not_not.1 bO),ov,om⟩ | exact ⟨nT,om,om⟩,Le.mk (.c2 (.c (.c .nil))) (.c (.cons (az U eS) (.c (.c .nil))))⟩))
 refine .skip (.region (.fa bS ?_))
 refine .ld fU ?_
 refine .vl (Y.za fq U U (aH U) U U) (.buildSlice (([aS]:List Cell).map Cell.row) dU ez U U U U U (aq (s:=6) (f:=Cell.row) (fun _=>U)) U U U ab ?_)
 refine .cJ Cell.row (bH ++ ([aS]:List Cell)) dU ez U U U U (bh bK) (aV bK) (b8 bK) bK bK ab ab ?_
 refine .fa bS ?_
 exact .aj ti U U U U U U (aH U) U (.nil (⟨aA,bH ++ ([aS]:List Cell),by first | exact ⟨nT.add om (gF.resolve_left bO) bO,ov,ov⟩ | exact ⟨nT.tg om (gF.resolve_left bO) (Classical.not_not.1 bO),ov,om⟩ | exact ⟨nT,om,om⟩,Le.mk (.c2 (.c (.c .nil))) (.c (.cons (az U eS) (.c (.c .nil))))⟩))
 refine .skip (⟨aA,bH,by first | exact ⟨nT.add om (gF.resolve_left bO) bO,ov,ov⟩ | exact ⟨nT.tg om (gF.resolve_left bO) (Classical.not_not.1 bO),ov,om⟩ | exact ⟨nT,om,om⟩,Le.mk (.c2 (.c (.c .nil))) (.c (.cons (az U eS) (.c (.c .nil))))⟩)
 refine .alloc 109 ez U U ab ?_
 refine .nil ⟨U,(.one 7 U au (.oE U ab ?_))⟩
 refine .nil ⟨U,(.blind 9 U au (ax.extract U U U) ab (.one 8 U au (.iO U U ab ?_)))⟩
 refine .nil ⟨U,(.one 11 U au (.sh (Sh.rm (d:=127) (y:=.agg [.v (.int .i64 aS.kind),.v (.int .i64 aS.op),.v (.int .i64 aS.out),.fz 1 (aS.args.map ah),.v (.int .u64 (aS.num:Int)),.v (.int .i64 aS.mem)]) U (by show X.n8 (.agg [.v (.int .i64 aS.kind),.v (.int .i64 aS.op),.v (.int .i64 aS.out),.dK 1 (aS.args.map ah),.v (.int .u64 (aS.num:Int)),.v (.int .i64 aS.mem)]) = _; simp only [X.n8,X.kF,X.lE (cM.map aI)])) (.aj gi U U U U U U (aH U) U ?_)))⟩
 refine .nil ⟨U,(.one 12 U au (.an (.nil ⟨U,?_⟩)))⟩
 refine .done au (.le (ba:=⟨[(1,.fp (nw.row p) 0),(2,.ptr 102 0 0 0),(3,.ptr 103 0 0 0),(8,vi jM),(9,.ptr 109 0 0 0),(10,vi kS)],[(102,.cells [.v (.string ByteArray.empty),vn,vn,vn,vn,vn,vn,vn,vi 0,vi 0,vn]),(103,.cells [.v (.string nB),.aN 401 1 0 aA.length,.aN 402 6 0 bH.length,.fz 1 (bG.map ah),.fz 5 (bQ.map eQ.row),.fz 3 (bs.map bI.row),vn,vn,vi 0,vi 0,vn]),(109,.cells [vi aS.kind,vi aS.op,vi aS.out,.fz 1 (aS.args.map ah),.v (.int .u64 (aS.num:Int)),vi aS.mem]),(401,.rows 1 (aA.map ah)),(402,.rows 6 (bH.map Cell.row))]⟩) (Le.mk (.c4 (.c (.c .nil))) (.c4 (.c .nil))) (.sr (.fa ck ?_)))
 refine .ld bg ?_
 refine .vl (Y.zj U U) (.nil (.aB U (fun oR=>?_) (fun oR=>?_)))
 refine .seq (.sr (.fa ck ?_))
 refine .ld bg ?_
 refine .vl (Y.zj U U) (.nil (.aB U (fun AV=>?_) (fun AV=>?_)))
 refine .sr (.fa bB ?_)
 refine .ld bn ?_
 refine .vl (Y.qw (n:=aA.length) a7 U U) (.fa eg ?_)
 refine .aj dT U U U U U U (aH U) U (.nil (.region (.fa bB ?_)))
 refine .ld bn ?_
 refine .mv ?_
 refine .buildSlice (([kS]:List Int).map ah) a7 dG U U U U U (aq (s:=1) (f:=ah) (fun _=>U)) U U U ab ?_
 refine .cJ ah (aA ++ ([kS]:List Int)) a7 dG U U U U (bh bK) (aV bK) (b8 bK) bK bK ab ab ?_
 refine .fa bB ?_
 refine .aj fG U U U U U U (aH U) U (.nil (.region (.fa bS ?_)))
 refine .ld fU ?_
 refine .vl (Y.za fq U U (aH U) U U) (.buildSlice (([(⟨aS.kind,aS.op,(aA.length:Int),aS.args,aS.num,aS.mem⟩:Cell)]:List Cell).map Cell.row) dU ez U U U U U (aq (s:=6) (f:=Cell.row) (fun _=>U)) U U U ab ?_)
 refine .cJ Cell.row (bH ++ ([(⟨aS.kind,aS.op,(aA.length:Int),aS.args,aS.num,aS.mem⟩:Cell)]:List Cell)) dU ez U U U U (bh bK) (aV bK) (b8 bK) bK bK ab ab ?_
 refine .fa bS ?_
 exact .aj ti U U U U U U (aH U) U (.nil (⟨aA ++ ([kS]:List Int),bH ++ ([(⟨aS.kind,aS.op,(aA.length:Int),aS.args,aS.num,aS.mem⟩:Cell)]:List Cell),by first | exact ⟨nT.add om (gF.resolve_left bO) bO,ov,ov⟩ | exact ⟨nT.tg om (gF.resolve_left bO) (Classical.not_not.1 bO),ov,om⟩ | exact ⟨nT,om,om⟩,Le.mk (.c2 (.c (.c .nil))) (.c (.cons (az U eS) (.c (.c .nil))))⟩))
 refine .skip (.region (.fa bS ?_))
 refine .ld fU ?_
 refine .vl (Y.za fq U U (aH U) U U) (.buildSlice (([aS]:List Cell).map Cell.row) dU ez U U U U U (aq (s:=6) (f:=Cell.row) (fun _=>U)) U U U ab ?_)
 refine .cJ Cell.row (bH ++ ([aS]:List Cell)) dU ez U U U U (bh bK) (aV bK) (b8 bK) bK bK ab ab ?_
 refine .fa bS ?_
 exact .aj ti U U U U U U (aH U) U (.nil (⟨aA,bH ++ ([aS]:List Cell),by first | exact ⟨nT.add om (gF.resolve_left bO) bO,ov,ov⟩ | exact ⟨nT.tg om (gF.resolve_left bO) (Classical.not_not.1 bO),ov,om⟩ | exact ⟨nT,om,om⟩,Le.mk (.c2 (.c (.c .nil))) (.c (.cons (az U eS) (.c (.c .nil))))⟩))
 refine .skip (⟨aA,bH,by first | exact ⟨nT.add om (gF.resolve_left bO) bO,ov,ov⟩ | exact ⟨nT.tg om (gF.resolve_left bO) (Classical.not_not.1 bO),ov,om⟩ | exact ⟨nT,om,om⟩,Le.mk (.c2 (.c (.c .nil))) (.c (.cons (az U eS) (.c (.c .nil))))⟩)
 refine .alloc 109 ez U U ab ?_
 refine .nil ⟨U,(.one 6 U au (.El [401,402] O4 (wx (n:=(⟨nB,aA,bH,bG,bQ,bs,[],[],0,0,[]⟩:ae)) (p:=(p.parts.getD jM default)) (by show (aA).length <= 1048576; omega) (by show 0 < (aA).length; omega) (UR _ (getD_in om)) nT.ground (by show (bG).length <= 1048576; omega)) U (.agg (.ai U U (.cE U U (bz om) (b5 om) (.cE U U (bz om) (b5 om) (.ai U U (.ai U U (.ai U U (.ai U U (.ai U U (.ai U U (.ai U U (.ai U U .nil))))))))))) U (.ai U U .nil)) (eU U (bj aI) (jA U (bj Cell.bE))) ab ?_))⟩
 rintro _ ⟨aS,kS,gF,rfl,_⟩
 refine ⟨U,⟨⟨trivial,trivial,trivial,(lC oF _),trivial,trivial,trivial⟩,trivial,trivial⟩,(.nil ⟨U,(.one 7 U au (.oE U ab ?_))⟩)⟩
 refine .nil ⟨U,(.blind 9 U au (ax.extract U U U) ab (.one 8 U au (.iO U U ab ?_)))⟩
 refine .nil ⟨U,(.one 11 U au (.sh (Sh.rm (d:=127) (y:=.agg [.v (.int .i64 aS.kind),.v (.int .i64 aS.op),.v (.int .i64 aS.out),.fz 1 (aS.args.map ah),.v (.int .u64 (aS.num:Int)),.v (.int .i64 aS.mem)]) U (by show X.n8 (.agg [.v (.int .i64 aS.kind),.v (.int .i64 aS.op),.v (.int .i64 aS.out),.dK 1 (aS.args.map ah),.v (.int .u64 (aS.num:Int)),.v (.int .i64 aS.mem)]) = _; simp only [X.n8,X.kF,X.lE (cM.map aI)])) (.aj gi U U U U U U (aH U) U ?_)))⟩
 refine .nil ⟨U,(.one 12 U au (.an (.nil ⟨U,?_⟩)))⟩
 refine .done au (.le (ba:=⟨[(1,.fp (nw.row p) 0),(2,.ptr 102 0 0 0),(3,.ptr 103 0 0 0),(8,vi jM),(9,.ptr 109 0 0 0),(10,vi kS)],[(102,.cells [.v (.string ByteArray.empty),vn,vn,vn,vn,vn,vn,vn,vi 0,vi 0,vn]),(103,.cells [.v (.string nB),.aN 401 1 0 aA.length,.aN 402 6 0 bH.length,.fz 1 (bG.map ah),.fz 5 (bQ.map eQ.row),.fz 3 (bs.map bI.row),vn,vn,vi 0,vi 0,vn]),(109,.cells [vi aS.kind,vi aS.op,vi aS.out,.fz 1 (aS.args.map ah),.v (.int .u64 (aS.num:Int)),vi aS.mem]),(401,.rows 1 (aA.map ah)),(402,.rows 6 (bH.map Cell.row))]⟩) (Le.mk (.c4 (.c (.c .nil))) (.c4 (.c .nil))) (.sr (.fa ck ?_)))
 refine .ld bg ?_
 refine .vl (Y.zj U U) (.nil (.aB U (fun oR=>?_) (fun oR=>?_)))
 refine .seq (.sr (.fa ck ?_))
 refine .ld bg ?_
 refine .vl (Y.zj U U) (.nil (.aB U (fun AV=>?_) (fun AV=>?_)))
 refine .sr (.fa bB ?_)
 refine .ld bn ?_
 refine .vl (Y.qw (n:=aA.length) a7 U U) (.fa eg ?_)
 refine .aj dT U U U U U U (aH U) U (.nil (.region (.fa bB ?_)))
 refine .ld bn ?_
 refine .mv ?_
 refine .buildSlice (([kS]:List Int).map ah) a7 dG U U U U U (aq (s:=1) (f:=ah) (fun _=>U)) U U U ab ?_
 refine .cJ ah (aA ++ ([kS]:List Int)) a7 dG U U U U (bh bK) (aV bK) (b8 bK) bK bK ab ab ?_
 refine .fa bB ?_
 refine .aj fG U U U U U U (aH U) U (.nil (.region (.fa bS ?_)))
 refine .ld fU ?_
 refine .vl (Y.za fq U U (aH U) U U) (.buildSlice (([(⟨aS.kind,aS.op,(aA.length:Int),aS.args,aS.num,aS.mem⟩:Cell)]:List Cell).map Cell.row) dU ez U U U U U (aq (s:=6) (f:=Cell.row) (fun _=>U)) U U U ab ?_)
 refine .cJ Cell.row (bH ++ ([(⟨aS.kind,aS.op,(aA.length:Int),aS.args,aS.num,aS.mem⟩:Cell)]:List Cell)) dU ez U U U U (bh bK) (aV bK) (b8 bK) bK bK ab ab ?_
 refine .fa bS ?_
 exact .aj ti U U U U U U (aH U) U (.nil (⟨aA ++ ([kS]:List Int),bH ++ ([(⟨aS.kind,aS.op,(aA.length:Int),aS.args,aS.num,aS.mem⟩:Cell)]:List Cell),by first | exact ⟨nT.add om (gF.resolve_left bO) bO,ov,ov⟩ | exact ⟨nT.tg om (gF.resolve_left bO) (Classical.not_not.1 bO),ov,om⟩ | exact ⟨nT,om,om⟩,Le.mk (.c2 (.c (.c .nil))) (.c (.cons (az U eS) (.c (.c .nil))))⟩))
 refine .skip (.region (.fa bS ?_))
 refine .ld fU ?_
 refine .vl (Y.za fq U U (aH U) U U) (.buildSlice (([aS]:List Cell).map Cell.row) dU ez U U U U U (aq (s:=6) (f:=Cell.row) (fun _=>U)) U U U ab ?_)
 refine .cJ Cell.row (bH ++ ([aS]:List Cell)) dU ez U U U U (bh bK) (aV bK) (b8 bK) bK bK ab ab ?_
 refine .fa bS ?_
 exact .aj ti U U U U U U (aH U) U (.nil (⟨aA,bH ++ ([aS]:List Cell),by first | exact ⟨nT.add om (gF.resolve_left bO) bO,ov,ov⟩ | exact ⟨nT.tg om (gF.resolve_left bO) (Classical.not_not.1 bO),ov,om⟩ | exact ⟨nT,om,om⟩,Le.mk (.c2 (.c (.c .nil))) (.c (.cons (az U eS) (.c (.c .nil))))⟩))
 refine .skip (⟨aA,bH,by first | exact ⟨nT.add om (gF.resolve_left bO) bO,ov,ov⟩ | exact ⟨nT.tg om (gF.resolve_left bO) (Classical.not_not.1 bO),ov,om⟩ | exact ⟨nT,om,om⟩,Le.mk (.c2 (.c (.c .nil))) (.c (.cons (az U eS) (.c (.c .nil))))⟩)
 refine .region (.mv ?_)
 refine .vl (Y.qb U U om) (.an ?_)
 refine .nil (⟨jM + 1,kQ,kR,⟨om,FO.1,FO.2.1,FO.2.2⟩,om,Le.mk (.c2 (.c (.cons (ak U aY) .nil))) (.c (.cons (az U eS) (.c (.c .nil))))⟩)
 refine .exit (.iu (fun (cC:List Cell)=>⟨[(1,.fp (nw.row p) 0),(2,.ptr 102 0 0 0),(3,.ptr 103 0 0 0)],[(102,.cells [.v (.string ByteArray.empty),vn,vn,vn,vn,vn,vn,vn,vi 0,vi 0,vn]),(103,.cells [.v (.string nB),.aN 401 1 0 aA.length,.aN 402 6 0 cC.length,.fz 1 (bG.map ah),.fz 5 (bQ.map eQ.row),.fz 3 (bs.map bI.row),vn,vn,vi 0,vi 0,vn]),(401,.rows 1 (aA.map ah)),(402,.rows 6 (cC.map Cell.row))]⟩) (fun cC=>Gr (pn aA cC bG bQ bs) /\ cC.length = bH.length) ?_ (fun cC Lo=>?_))
 refine .sr (.an (.nil (.block ?_)))
 refine .gT (fun (kX:Nat) (jN:List Cell)=>⟨[(1,.fp (nw.row p) 0),(2,.ptr 102 0 0 0),(3,.ptr 103 0 0 0),(11,vi kX)],[(102,.cells [.v (.string ByteArray.empty),vn,vn,vn,vn,vn,vn,vn,vi 0,vi 0,vn]),(103,.cells [.v (.string nB),.aN 401 1 0 aA.length,.aN 402 6 0 bH.length,.fz 1 (bG.map ah),.fz 5 (bQ.map eQ.row),.fz 3 (bs.map bI.row),vn,vn,vi 0,vi 0,vn]),(401,.rows 1 (aA.map ah)),(402,.rows 6 (jN.map Cell.row))]⟩) (fun kX jN=>(jN.length = bH.length) /\ (Gr (pn aA jN bG bQ bs)) /\ (kX <= p.parts.length) /\ (jN.length = bH.length)) (fun kX jN=>p.parts.length - kX) 0 bH (⟨om,nT,om,U⟩) (Le.mk (.c2 (.c (.cons (ak U aY) .nil))) (.c2 (.c (.c .nil)))) (fun kX jN LO=>?_)
 obtain ⟨WL,QZ,UK,MU⟩:=LO
 refine .seq (.sr (.mv ?_))
 refine .fa qG ?_
 refine .ld Ad ?_
 refine .vl (Y.qw (n:=p.parts.length) Ae U dY) (.vl (Y.zb U U) (.mv ?_))
 refine .a8 (d:=156) U (fun AD=>?_) (fun AD=>?_)
 refine .gw 156 (Y.zf U U) (.gw 156 (Y.qo bS U U) (.gw 156 (Y.qz fU U U U U) (.gw 156 (Y.qw (n:=bH.length) dU U U) (.gw 156 (Y.zb U U) (.pk ?_)))))
 refine .nil (.aB U (fun Lw=>?_) (fun Lw=>?_))
 refine .skip (.seq (.block (.region (.fa qG ?_))))
 refine .ld Ad ?_
 refine .mv ?_
 refine .vl (Y.qr (m:=kX) Ae U U aY (ao (d:=default) om)) (.vl (Y.za EO U U (aH U) U U) (.mv ?_))
 refine .b7 [103,401,402] [] Sl (Dp (nm:=nB) (ws:=aA) (cs:=jN) (ins:=bG) (aD:=bQ) (streams:=bs) (f0:=0) (d0:=0) (p:=(p.parts.getD kX default)) (i:=kX) (cl:=bH.length) om om om (UR _ (getD_in om)) om (QZ.Kn om)) U (.named U U (.ai U U (.ai U U .nil))) ⟨U,U,U,trivial⟩ U ab (fun _ h=>by cases h) (fun _ h=>by cases h) ab ab ?_
 rintro r aK ⟨rfl,rfl⟩ _
 refine ⟨⟨rfl,(by intro ob aZ; simp only [List.mem_cons,List.not_mem_nil,or_false] at aZ; rcases aZ with rfl | rfl | rfl <;> rfl),.inl rfl⟩,(.nil (.region (.mv ?_)))⟩
 refine .vl (Y.qb U U om) (.an ?_)
 refine .nil (⟨kX + 1,sO aA jN (p.parts.getD kX default) kX,⟨bK,QZ.late om,om,(vP _ _).trans MU⟩,om,Le.mk (.c2 (.c (.cons (ak U aY) .nil))) (.c2 (.c (.c .nil)))⟩)
 refine .exit (⟨jN,⟨QZ,MU⟩,Le.mk (.c2 (.c .nil)) (.c (.cons (az U eS) (.c (.c .nil))))⟩)
 refine .gz 156 (.gz 156 (.gz 156 (.gz 156 (.gz 156 (.pk ?_)))))
 exact .nil (.cu U (.exit (⟨jN,⟨QZ,MU⟩,Le.mk (.c2 (.c .nil)) (.c (.cons (az U eS) (.c (.c .nil))))⟩)))
 obtain ⟨LS,hl3⟩:=Lo
 refine .seq (.seq (.sh (Sh.ew 103 406 1 6 U U U U ab) (.sh (Sh.ew 103 407 1 7 U U U U ab) (.sh (Sh.ew 103 410 1 10 U U U U ab) (.region (.an (.nil (.block ?_))))))))
 refine .e8 (fun (cf:Nat) (cP:List Int) (cQ:List Int)=>⟨[(1,.fp (nw.row p) 0),(2,.ptr 102 0 0 0),(3,.ptr 103 0 0 0),(12,vi cf)],[(102,.cells [.v (.string ByteArray.empty),vn,vn,vn,vn,vn,vn,vn,vi 0,vi 0,vn]),(103,.cells [.v (.string nB),.aN 401 1 0 aA.length,.aN 402 6 0 cC.length,.fz 1 (bG.map ah),.fz 5 (bQ.map eQ.row),.fz 3 (bs.map bI.row),.aN 406 1 0 cP.length,.aN 407 1 0 cQ.length,vi 0,vi 0,.aN 410 1 0 0]),(401,.rows 1 (aA.map ah)),(402,.rows 6 (cC.map Cell.row)),(406,.rows 1 (cP.map ah)),(407,.rows 1 (cQ.map ah)),(410,.rows 1 (([]:List Int).map ah))]⟩) (fun cf cP cQ=>((cf:Int) <= (bs.length:Int)) /\ (cP.length = cf) /\ (cQ.length = cf) /\ (∀ j,j < cf -> vQ aA bs cP cQ j)) (fun cf cP cQ=>((bs.length:Int) - (cf:Int)).toNat) 0 ([]:List Int) ([]:List Int) (⟨om,U,U,fun j hj=>by omega⟩) (Le.mk (.c2 (.c (.cons (ak U aY) .nil))) (.c (.cons (az U eS) (.c4 (.c .nil))))) (fun cf cP cQ UY=>?_)
 obtain ⟨YY,so,Dc,he⟩:=UY
 refine .seq (.sr (.mv ?_))
 refine .fa cK ?_
 refine .ld gy ?_
 refine .vl (Y.qw (n:=bs.length) fu U dY) (.vl (Y.zb U U) (.nil (.aB U (fun Lx=>?_) (fun Lx=>?_))))
 refine .skip ?_
 refine .iu (fun (nu:List Int)=>⟨[(1,.fp (nw.row p) 0),(2,.ptr 102 0 0 0),(3,.ptr 103 0 0 0),(12,vi cf)],[(102,.cells [.v (.string ByteArray.empty),vn,vn,vn,vn,vn,vn,vn,vi 0,vi 0,vn]),(103,.cells [.v (.string nB),.aN 401 1 0 aA.length,.aN 402 6 0 cC.length,.fz 1 (bG.map ah),.fz 5 (bQ.map eQ.row),.fz 3 (bs.map bI.row),.aN 406 1 0 ((cP ++ ([aE aA 1 ((3 * cf) + 1)]:List Int)).length),.aN 407 1 0 ((cQ ++ ([-1]:List Int)).length),vi 0,vi 0,.aN 410 1 0 0]),(401,.rows 1 (aA.map ah)),(402,.rows 6 (cC.map Cell.row)),(406,.rows 1 ((cP ++ ([aE aA 1 ((3 * cf) + 1)]:List Int)).map ah)),(407,.rows 1 (nu.map ah)),(410,.rows 1 (([]:List Int).map ah))]⟩) (fun nu=>(nu.length = (cQ ++ ([-1]:List Int)).length) /\ (Bw aA bs cf cQ nu)) ?_ (fun nu Qs=>?_)
 refine .block (.seq ?_)
 refine .ea (⟨[(1,.fp (nw.row p) 0),(2,.ptr 102 0 0 0),(3,.ptr 103 0 0 0),(12,.v (.int .i64 (cf:Int)))],[(102,.cells [.v (.string ByteArray.empty),vn,vn,vn,vn,vn,vn,vn,.v (.int .i64 0),.v (.int .i64 0),vn]),(103,.cells [.v (.string nB),.aN 401 1 0 aA.length,.aN 402 6 0 cC.length,.fz 1 (bG.map ah),.fz 5 (bQ.map eQ.row),.fz 3 (bs.map bI.row),.aN 406 1 0 ((cP ++ ([aE aA 1 ((3 * cf) + 1)]:List Int)).length),.aN 407 1 0 cQ.length,.v (.int .i64 0),.v (.int .i64 0),.aN 410 1 0 0]),(401,.rows 1 (aA.map ah)),(402,.rows 6 (cC.map Cell.row)),(406,.rows 1 ((cP ++ ([aE aA 1 ((3 * cf) + 1)]:List Int)).map ah)),(407,.rows 1 (cQ.map ah)),(410,.rows 1 (([]:List Int).map ah))]⟩) U ?_ ?_
 refine .blind 0 U au (ax.fieldAddr lL U U) ab (.blind 3 U au (ax.move U U) ab ?_)
 refine .blind 4 U au (ax.SI U U om) ab (.blind 5 U au (ax.KU U U om) ab (.blind 6 U au (ax.wc r4 vS U (by first | rfl | exact IntWalk.u8_in _ om)) ab (.yn ?_)))
 refine .two 1 2 U U au ?_ ?_
 refine .ld bn ?_
 refine .nil ⟨U,(.one 2 U au (.vl (Y.za fF U U (aH U) U U) (.nil ⟨U,(.one 7 U au (.iC [401,402,406,407,410] jg (kv (n:=(⟨nB,aA,cC,bG,bQ,bs,cP,cQ,0,0,([]:List Int)⟩:ae)) (w:=1) (k:=((3 * cf) + 1)) (by show (aA).length <= 1048576; omega) om) U (.agg (.ai U U (.cE U U (bz bK) (b5 bK) (.cE U U (bz bK) (b5 bK) (.ai U U (.ai U U (.ai U U (.cE U U (bz bK) (b5 bK) (.cE U U (bz bK) (b5 bK) (.ai U U (.ai U U (.cE U U (bz bK) (b5 bK) .nil))))))))))) U (.ai U U (.ai U U .nil))) (eU U (bj aI) (eU U (bj Cell.bE) (eU U (bj aI) (eU U (bj aI) (jA U (bj aI)))))) ab U trivial ?_))⟩)))⟩
 refine .nil ⟨U,(.one 8 U au (.buildSlice (([aE aA 1 ((3 * cf) + 1)]:List Int).map ah) a7 dG U U U U U (aq (s:=1) (f:=ah) (fun _=>U)) U U U ab ?_))⟩
 refine .nil ⟨U,(.one 9 U au (.cJ ah (cP ++ ([aE aA 1 ((3 * cf) + 1)]:List Int)) a7 dG U U U U (bh bK) (aV bK) (b8 bK) bK bK ab ab ?_))⟩
 refine .nil ⟨U,(.one 10 U au (.fa lL ?_))⟩
 refine .nil ⟨U,(.one 11 U au (.aj fG U U U U U U (aH U) U ?_))⟩
 exact .nil ⟨U,(.done au (Le.mk (.c2 (.c (.c .nil))) (.c4 (.c2 (.c .nil)))))⟩
 refine .vl (Y.za fF U U (aH U) U U) (.nil ⟨U,(.two 1 7 U U au ?_ ?_)⟩)
 refine .ld bn ?_
 refine .nil ⟨U,(.one 7 U au (.iC [401,402,406,407,410] jg (kv (n:=(⟨nB,aA,cC,bG,bQ,bs,cP,cQ,0,0,([]:List Int)⟩:ae)) (w:=1) (k:=((3 * cf) + 1)) (by show (aA).length <= 1048576; omega) om) U (.agg (.ai U U (.cE U U (bz bK) (b5 bK) (.cE U U (bz bK) (b5 bK) (.ai U U (.ai U U (.ai U U (.cE U U (bz bK) (b5 bK) (.cE U U (bz bK) (b5 bK) (.ai U U (.ai U U (.cE U U (bz bK) (b5 bK) .nil))))))))))) U (.ai U U (.ai U U .nil))) (eU U (bj aI) (eU U (bj Cell.bE) (eU U (bj aI) (eU U (bj aI) (jA U (bj aI)))))) ab U trivial ?_))⟩
 refine .nil ⟨U,(.one 8 U au (.buildSlice (([aE aA 1 ((3 * cf) + 1)]:List Int).map ah) a7 dG U U U U U (aq (s:=1) (f:=ah) (fun _=>U)) U U U ab ?_))⟩
 refine .nil ⟨U,(.one 9 U au (.cJ ah (cP ++ ([aE aA 1 ((3 * cf) + 1)]:List Int)) a7 dG U U U U (bh bK) (aV bK) (b8 bK) bK bK ab ab ?_))⟩
 refine .nil ⟨U,(.one 10 U au (.fa lL ?_))⟩
 refine .nil ⟨U,(.one 11 U au (.aj fG U U U U U U (aH U) U ?_))⟩
 exact .nil ⟨U,(.done au (Le.mk (.c2 (.c (.c .nil))) (.c4 (.c2 (.c .nil)))))⟩
 refine .iC [401,402,406,407,410] jg (kv (n:=(⟨nB,aA,cC,bG,bQ,bs,cP,cQ,0,0,([]:List Int)⟩:ae)) (w:=1) (k:=((3 * cf) + 1)) (by show (aA).length <= 1048576; omega) om) U (.agg (.ai U U (.cE U U (bz bK) (b5 bK) (.cE U U (bz bK) (b5 bK) (.ai U U (.ai U U (.ai U U (.cE U U (bz bK) (b5 bK) (.cE U U (bz bK) (b5 bK) (.ai U U (.ai U U (.cE U U (bz bK) (b5 bK) .nil))))))))))) U (.ai U U (.ai U U .nil))) (eU U (bj aI) (eU U (bj Cell.bE) (eU U (bj aI) (eU U (bj aI) (jA U (bj aI)))))) ab U trivial ?_
 refine .nil ⟨U,(.two 1 8 U U au ?_ ?_)⟩
 refine .ld bn ?_
 refine .nil ⟨U,(.one 8 U au (.buildSlice (([aE aA 1 ((3 * cf) + 1)]:List Int).map ah) a7 dG U U U U U (aq (s:=1) (f:=ah) (fun _=>U)) U U U ab ?_))⟩
 refine .nil ⟨U,(.one 9 U au (.cJ ah (cP ++ ([aE aA 1 ((3 * cf) + 1)]:List Int)) a7 dG U U U U (bh bK) (aV bK) (b8 bK) bK bK ab ab ?_))⟩
 refine .nil ⟨U,(.one 10 U au (.fa lL ?_))⟩
 refine .nil ⟨U,(.one 11 U au (.aj fG U U U U U U (aH U) U ?_))⟩
 exact .nil ⟨U,(.done au (Le.mk (.c2 (.c (.c .nil))) (.c4 (.c2 (.c .nil)))))⟩
 refine .buildSlice (([aE aA 1 ((3 * cf) + 1)]:List Int).map ah) a7 dG U U U U U (aq (s:=1) (f:=ah) (fun _=>U)) U U U ab ?_
 refine .nil ⟨U,(.one 1 U au (.ld bn ?_))⟩
 refine .nil ⟨U,(.one 9 U au (.cJ ah (cP ++ ([aE aA 1 ((3 * cf) + 1)]:List Int)) a7 dG U U U U (bh bK) (aV bK) (b8 bK) bK bK ab ab ?_))⟩
 refine .nil ⟨U,(.one 10 U au (.fa lL ?_))⟩
 refine .nil ⟨U,(.one 11 U au (.aj fG U U U U U U (aH U) U ?_))⟩
 exact .nil ⟨U,(.done au (Le.mk (.c2 (.c (.c .nil))) (.c4 (.c2 (.c .nil)))))⟩
 refine .le (ba:=⟨[(1,.fp (nw.row p) 0),(2,.ptr 102 0 0 0),(3,.ptr 103 0 0 0),(12,vi cf)],[(102,.cells [.v (.string ByteArray.empty),vn,vn,vn,vn,vn,vn,vn,vi 0,vi 0,vn]),(103,.cells [.v (.string nB),.aN 401 1 0 aA.length,.aN 402 6 0 cC.length,.fz 1 (bG.map ah),.fz 5 (bQ.map eQ.row),.fz 3 (bs.map bI.row),.aN 406 1 0 ((cP ++ ([aE aA 1 ((3 * cf) + 1)]:List Int)).length),.aN 407 1 0 cQ.length,vi 0,vi 0,.aN 410 1 0 0]),(401,.rows 1 (aA.map ah)),(402,.rows 6 (cC.map Cell.row)),(406,.rows 1 ((cP ++ ([aE aA 1 ((3 * cf) + 1)]:List Int)).map ah)),(407,.rows 1 (cQ.map ah)),(410,.rows 1 (([]:List Int).map ah))]⟩) (Le.mk (.c2 (.c (.c .nil))) (.c4 (.c2 (.c .nil)))) (.sr ?_)
 refine .fa kb ?_
 refine .ld bn ?_
 refine .buildSlice (([-1]:List Int).map ah) a7 dG U U U U U (aq (s:=1) (f:=ah) (fun _=>U)) U U U ab ?_
 refine .cJ ah (cQ ++ ([-1]:List Int)) a7 dG U U U U (bh bK) (aV bK) (b8 bK) bK bK ab ab ?_
 refine .fa kb ?_
 refine .aj fG U U U U U U (aH U) U (.nil ?_)
 refine .le (ba:=⟨[(1,.fp (nw.row p) 0),(2,.ptr 102 0 0 0),(3,.ptr 103 0 0 0),(12,vi cf)],[(102,.cells [.v (.string ByteArray.empty),vn,vn,vn,vn,vn,vn,vn,vi 0,vi 0,vn]),(103,.cells [.v (.string nB),.aN 401 1 0 aA.length,.aN 402 6 0 cC.length,.fz 1 (bG.map ah),.fz 5 (bQ.map eQ.row),.fz 3 (bs.map bI.row),.aN 406 1 0 ((cP ++ ([aE aA 1 ((3 * cf) + 1)]:List Int)).length),.aN 407 1 0 ((cQ ++ ([-1]:List Int)).length),vi 0,vi 0,.aN 410 1 0 0]),(401,.rows 1 (aA.map ah)),(402,.rows 6 (cC.map Cell.row)),(406,.rows 1 ((cP ++ ([aE aA 1 ((3 * cf) + 1)]:List Int)).map ah)),(407,.rows 1 ((cQ ++ ([-1]:List Int)).map ah)),(410,.rows 1 (([]:List Int).map ah))]⟩) (Le.mk (.c2 (.c (.c .nil))) (.c4 (.c2 (.c .nil)))) (.sr ?_)
 refine .fa cK ?_
 refine .ld gy ?_
 refine .mv ?_
 refine .vl (Y.qr (m:=cf) fu U U aY (ao (d:=default) om)) (.fa gx ?_)
 refine .ld vT ?_
 refine .nil (.cond U (fun UZ=>?_) (fun UZ=>?_))
 refine .jh [103] [102,103,401,402,406,407,410] U (.blind 0 U au (ax.fieldAddr kb U U) ab (.load 1 U au bn U U U U U ab ?_))
 refine .blind 2 U au (ax.move U U) ab (.fW 3 U au fF U U U (aH U) U U ab (.blind 4 U au (ax.fieldAddr cK U U) ab ?_))
 refine .load 5 U au gy U U U U U ab (.blind 6 U au (ax.move U U) ab ?_)
 refine .blind 7 U au (ax.kj (m:=cf) fu U U aY (ao (d:=default) om)) ab ?_
 refine .blind 8 U au (ax.fieldAddr me U U) ab (.load 9 U au bg U U U U U ab (.J2 U U (cv.cells U U U cv.nil) ?_))
 refine .one 10 U au (.iC [401,402,406,407,410] jg (kv (n:=(⟨nB,aA,cC,bG,bQ,bs,cP ++ ([aE aA 1 ((3 * cf) + 1)]:List Int),cQ ++ ([-1]:List Int),0,0,([]:List Int)⟩:ae)) (w:=((bs.getD cf default).width)) (k:=255) (by show (aA).length <= 1048576; omega) om) U (.agg (.ai U U (.cE U U (bz bK) (b5 bK) (.cE U U (bz bK) (b5 bK) (.ai U U (.ai U U (.ai U U (.cE U U (bz bK) (b5 bK) (.cE U U (bz bK) (b5 bK) (.ai U U (.ai U U (.cE U U (bz bK) (b5 bK) .nil))))))))))) U (.ai U U (.ai U U .nil))) (eU U (bj aI) (eU U (bj Cell.bE) (eU U (bj aI) (eU U (bj aI) (jA U (bj aI)))))) ab U trivial ?_)
 refine .nil ⟨U,(.one 11 U au (.vl (Y.qs (m:=cf) a7 U U aY bK) (.nil ⟨U,(.one 12 U au (.iB (((cQ ++ ([-1]:List Int)).set cf (aE aA ((bs.getD cf default).width) 255)).map ah) dT U U U U U U U (aO (d:=0) bK) (aH U) (eO U) ?_))⟩)))⟩
 refine .nil ⟨U,(.done au (⟨(cQ ++ ([-1]:List Int)).set cf (aE aA ((bs.getD cf default).width) 255),⟨bK,by first | exact xP Dc (dq (LS.ground.str (by show cf < bs.length; omega)).1 _) bO | exact xQ Dc (by simpa using bO)⟩,Le.mk (.c2 (.c (.c .nil))) (.c4 (.c2 (.c .nil)))⟩))⟩
 refine .skip (⟨cQ ++ ([-1]:List Int),⟨om,by first | exact xP Dc (dq (LS.ground.str (by show cf < bs.length; omega)).1 _) bO | exact xQ Dc (by simpa using bO)⟩,Le.mk (.c2 (.c (.c .nil))) (.c4 (.c2 (.c .nil)))⟩)
 obtain ⟨MF,Qt⟩:=Qs
 refine .region (.mv ?_)
 refine .vl (Y.qb U U om) (.an ?_)
 refine .nil (⟨cf + 1,cP ++ ([aE aA 1 ((3 * cf) + 1)]:List Int),nu,⟨om,by rw [List.length_append,so]; rfl,Qt.1,CD so he (dq LS.ground.one _) Qt⟩,om,Le.mk (.c2 (.c (.cons (ak U aY) .nil))) (.c (.cons (az U eS) (.c4 (.c .nil))))⟩)
 refine .exit (.seq (.sr (.an (.nil (.block ?_)))))
 refine .gT (fun (fw:Nat) (fE:List Int)=>⟨[(1,.fp (nw.row p) 0),(2,.ptr 102 0 0 0),(3,.ptr 103 0 0 0),(13,vi fw)],[(102,.cells [.v (.string ByteArray.empty),vn,vn,vn,vn,vn,vn,vn,vi 0,vi 0,vn]),(103,.cells [.v (.string nB),.aN 401 1 0 aA.length,.aN 402 6 0 cC.length,.fz 1 (bG.map ah),.fz 5 (bQ.map eQ.row),.fz 3 (bs.map bI.row),.aN 406 1 0 cP.length,.aN 407 1 0 cQ.length,vi 0,vi 0,.aN 410 1 0 fE.length]),(401,.rows 1 (aA.map ah)),(402,.rows 6 (cC.map Cell.row)),(406,.rows 1 (cP.map ah)),(407,.rows 1 (cQ.map ah)),(410,.rows 1 (fE.map ah))]⟩) (fun fw fE=>((fw:Int) <= (p.cH.length:Int)) /\ (∀ m ∈ fE,In m aA.length) /\ (fE.length = fw)) (fun fw fE=>((p.cH.length:Int) - (fw:Int)).toNat) 0 ([]:List Int) (⟨om,fun m h=>(by cases h),U⟩) (Le.mk (.c2 (.c (.cons (ak U aY) .nil))) (.c (.cons (az U eS) (.c4 (.c .nil))))) (fun fw fE Va=>?_)
 obtain ⟨YZ,hr,LW⟩:=Va
 refine .seq (.sr (.mv ?_))
 refine .fa Ac ?_
 refine .ld CF ?_
 refine .vl (Y.qw (n:=p.cH.length) CG U dY) (.vl (Y.zb U U) (.nil (.aB U (fun Vb=>?_) (fun Vb=>?_))))
 refine .skip (.seq (.block ?_))
 have UX:=hk.cH (p.cH.getD fw 0) (getD_in om)
 refine .ea (⟨[(1,.fp (nw.row p) 0),(2,.ptr 102 0 0 0),(3,.ptr 103 0 0 0),(13,.v (.int .i64 (fw:Int)))],[(102,.cells [.v (.string ByteArray.empty),vn,vn,vn,vn,vn,vn,vn,.v (.int .i64 0),.v (.int .i64 0),vn]),(103,.cells [.v (.string nB),.aN 401 1 0 aA.length,.aN 402 6 0 cC.length,.fz 1 (bG.map ah),.fz 5 (bQ.map eQ.row),.fz 3 (bs.map bI.row),.aN 406 1 0 cP.length,.aN 407 1 0 cQ.length,.v (.int .i64 0),.v (.int .i64 0),.aN 410 1 0 ((fE ++ ([((p.cH.getD fw 0:Nat):Int) % (aA.length:Int)]:List Int)).length)]),(401,.rows 1 (aA.map ah)),(402,.rows 6 (cC.map Cell.row)),(406,.rows 1 (cP.map ah)),(407,.rows 1 (cQ.map ah)),(410,.rows 1 ((fE ++ ([((p.cH.getD fw 0:Nat):Int) % (aA.length:Int)]:List Int)).map ah))]⟩) U ?_ ?_
 refine .blind 0 U au (ax.fieldAddr mh U U) ab (.blind 2 U au (ax.fieldAddr Ac U U) ab (.load 3 U au CF U U U U U ab ?_))
 refine .blind 4 U au (ax.move U U) ab (.blind 5 U au (ax.kj (m:=fw) CG U U aY (ao (d:=0) om)) ab (.load 6 U au sQ U U U U U ab (.blind 7 U au (ax.wc vS r4 U yO) ab ?_)))
 refine .blind 8 U au (ax.fieldAddr bB U U) ab (.yn ?_)
 refine .two 1 9 U U au ?_ ?_
 refine .ld bn ?_
 refine .nil ⟨U,(.one 9 U au (.ld bn ?_))⟩
 refine .nil ⟨U,(.one 10 U au (.vl (Y.qw (n:=aA.length) a7 U U) (.nil ⟨U,(.one 11 U au (.vl (Y.zr U U om) (.nil ⟨U,(.one 12 U au (.buildSlice (([((p.cH.getD fw 0:Nat):Int) % (aA.length:Int)]:List Int).map ah) a7 dG U U U U U (aq (s:=1) (f:=ah) (fun _=>U)) U U U ab ?_))⟩)))⟩)))⟩
 refine .nil ⟨U,(.one 13 U au (.cJ ah (fE ++ ([((p.cH.getD fw 0:Nat):Int) % (aA.length:Int)]:List Int)) a7 dG U U U U (bh bK) (aV bK) (b8 bK) bK bK ab ab ?_))⟩
 refine .nil ⟨U,(.one 14 U au (.fa mh ?_))⟩
 refine .nil ⟨U,(.one 15 U au (.aj fG U U U U U U (aH U) U ?_))⟩
 exact .nil ⟨U,(.done au (Le.mk (.c2 (.c (.c .nil))) (.c4 (.c2 (.c .nil)))))⟩
 refine .ld bn ?_
 refine .nil ⟨U,(.two 1 10 U U au ?_ ?_)⟩
 refine .ld bn ?_
 refine .nil ⟨U,(.one 10 U au (.vl (Y.qw (n:=aA.length) a7 U U) (.nil ⟨U,(.one 11 U au (.vl (Y.zr U U om) (.nil ⟨U,(.one 12 U au (.buildSlice (([((p.cH.getD fw 0:Nat):Int) % (aA.length:Int)]:List Int).map ah) a7 dG U U U U U (aq (s:=1) (f:=ah) (fun _=>U)) U U U ab ?_))⟩)))⟩)))⟩
 refine .nil ⟨U,(.one 13 U au (.cJ ah (fE ++ ([((p.cH.getD fw 0:Nat):Int) % (aA.length:Int)]:List Int)) a7 dG U U U U (bh bK) (aV bK) (b8 bK) bK bK ab ab ?_))⟩
 refine .nil ⟨U,(.one 14 U au (.fa mh ?_))⟩
 refine .nil ⟨U,(.one 15 U au (.aj fG U U U U U U (aH U) U ?_))⟩
 exact .nil ⟨U,(.done au (Le.mk (.c2 (.c (.c .nil))) (.c4 (.c2 (.c .nil)))))⟩
 refine .vl (Y.qw (n:=aA.length) a7 U U) (.nil ⟨U,(.blind 11 U au (ax.FG U U om) ab ?_)⟩)
 refine .two 1 12 U U au ?_ ?_
 refine .ld bn ?_
 refine .nil ⟨U,(.one 12 U au (.buildSlice (([((p.cH.getD fw 0:Nat):Int) % (aA.length:Int)]:List Int).map ah) a7 dG U U U U U (aq (s:=1) (f:=ah) (fun _=>U)) U U U ab ?_))⟩
 refine .nil ⟨U,(.one 13 U au (.cJ ah (fE ++ ([((p.cH.getD fw 0:Nat):Int) % (aA.length:Int)]:List Int)) a7 dG U U U U (bh bK) (aV bK) (b8 bK) bK bK ab ab ?_))⟩
 refine .nil ⟨U,(.one 14 U au (.fa mh ?_))⟩
 refine .nil ⟨U,(.one 15 U au (.aj fG U U U U U U (aH U) U ?_))⟩
 exact .nil ⟨U,(.done au (Le.mk (.c2 (.c (.c .nil))) (.c4 (.c2 (.c .nil)))))⟩
 refine .buildSlice (([((p.cH.getD fw 0:Nat):Int) % (aA.length:Int)]:List Int).map ah) a7 dG U U U U U (aq (s:=1) (f:=ah) (fun _=>U)) U U U ab ?_
 refine .nil ⟨U,(.one 1 U au (.ld bn ?_))⟩
 refine .nil ⟨U,(.one 13 U au (.cJ ah (fE ++ ([((p.cH.getD fw 0:Nat):Int) % (aA.length:Int)]:List Int)) a7 dG U U U U (bh bK) (aV bK) (b8 bK) bK bK ab ab ?_))⟩
 refine .nil ⟨U,(.one 14 U au (.fa mh ?_))⟩
 refine .nil ⟨U,(.one 15 U au (.aj fG U U U U U U (aH U) U ?_))⟩
 exact .nil ⟨U,(.done au (Le.mk (.c2 (.c (.c .nil))) (.c4 (.c2 (.c .nil)))))⟩
 refine .region (.mv ?_)
 refine .vl (Y.qb U U om) (.an ?_)
 refine .nil (⟨fw + 1,fE ++ ([((p.cH.getD fw 0:Nat):Int) % (aA.length:Int)]:List Int),⟨om,tA hr (wD (n:=pn aA cC bG bQ bs) LS.ground (by show 0 < aA.length; omega)),by rw [List.length_append,LW]; rfl⟩,om,Le.mk (.c2 (.c (.cons (ak U aY) .nil))) (.c (.cons (az U eS) (.c4 (.c .nil))))⟩)
 refine .exit (.sr (.vl (Y.za fF U U (aH U) U U) (.fa qG ?_)))
 refine .ld Ad ?_
 refine .vl (Y.qw (n:=p.parts.length) Ae U dY) (.vl (Y.qk r4 vS U (by first | rfl | exact IntWalk.u8_in _ om)) (.iC [401,402,406,407,410] jg (kv (n:=(⟨nB,aA,cC,bG,bQ,bs,cP,cQ,0,0,fE⟩:ae)) (w:=1) (k:=p.parts.length) (by show (aA).length <= 1048576; omega) om) U (.agg (.ai U U (.cE U U (bz om) (b5 om) (.cE U U (bz om) (b5 om) (.ai U U (.ai U U (.ai U U (.cE U U (bz om) (b5 om) (.cE U U (bz om) (b5 om) (.ai U U (.ai U U (.cE U U (bz om) (b5 om) .nil))))))))))) U (.ai U U (.ai U U .nil))) (eU U (bj aI) (eU U (bj Cell.bE) (eU U (bj aI) (eU U (bj aI) (jA U (bj aI)))))) ab U trivial ?_))
 refine .fa qF ?_
 refine .aj dT U U U U U U (aH U) U (.nil (.sr (.vl (Y.za fF U U (aH U) U U) (.fa qG ?_))))
 refine .ld Ad ?_
 refine .vl (Y.qw (n:=p.parts.length) Ae U dY) (.vl (Y.zh U U om) (.vl (Y.qb U U om) (.vl (Y.qj r4 vS U (yo ((7 * p.parts.length) + 1))) (.iC [401,402,406,407,410] jg (kv (n:=(⟨nB,aA,cC,bG,bQ,bs,cP,cQ,aE aA 1 p.parts.length,0,fE⟩:ae)) (w:=1) (k:=(((7 * p.parts.length) + 1) % 256)) (by show (aA).length <= 1048576; omega) om) U (.agg (.ai U U (.cE U U (bz om) (b5 om) (.cE U U (bz om) (b5 om) (.ai U U (.ai U U (.ai U U (.cE U U (bz om) (b5 om) (.cE U U (bz om) (b5 om) (.ai U U (.ai U U (.cE U U (bz om) (b5 om) .nil))))))))))) U (.ai U U (.ai U U .nil))) (eU U (bj aI) (eU U (bj Cell.bE) (eU U (bj aI) (eU U (bj aI) (jA U (bj aI)))))) ab U trivial ?_))))
 refine .fa sq ?_
 refine .aj dT U U U U U U (aH U) U (.nil (.seq (.sh (Sh.oO 103 406 6 U U U (aW om) (cM.map aI) ab U U U) (.sh (Sh.oO 103 407 7 U U U (aW om) (cM.map aI) ab U U U) (.sh (Sh.oO 103 410 10 U U U (aW om) (cM.map aI) ab U U U) (.region (.vl (Y.za fF U U (aH U) U U) (.aj Kv U U U U U U (aH U) U ?_))))))))
 exact .nil (.ret (⟨_,U,_,_,_,(Sh.OZ (d:=0) 1 401 U U U rS U ab).then (Sh.OZ (d:=0) 2 402 U U U rS U ab),U,U,(⟨nB,aA,cC,bG,bQ,bs,cP,cQ,aE aA 1 p.parts.length,aE aA 1 (((7 * p.parts.length) + 1) % 256),fE⟩:ae),(LS.made om om om om om om (fun m h=>(hm m h).1) (fun m h=>(hs m h).1) om om (fun j hj=>he j om) hr (dq LS.ground.one _) (dq LS.ground.one _)),U,U⟩))
open Go Go.AW Go.Proofs
theorem GA{p:nw}:aw Try.prog 46 [.agg (nw.row p)] [] [] (fun r o=>r = .v (.bool (decide (p.Q9))) /\ o = []):=by
 refine aw.of Try.func46 U U U (n:=31) ab (aH U) (.sr (.box 101 U U U U U ab ?_))
 refine .an (.nil (.sr ?_))
 refine .fa wG ?_
 refine .ld xS ?_
 refine .vl (Y.qw (n:=p.aD.length) xT U dY) (.vl (Y.qy U U) (.mv ?_))
 refine .a8 (d:=7) U (fun c7=>?_) (fun c7=>?_)
 refine .gw 7 (Y.qo wH U U) (.gw 7 (Y.qz xS U U U U) (.gw 7 (Y.qw (n:=p.streams.length) xT U dY) (.gw 7 (Y.qy U U) (.pk ?_))))
 refine .mv ?_
 refine .a8 (d:=13) U (fun yV=>?_) (fun yV=>?_)
 refine .gw 13 (Y.qo Ab U U) (.gw 13 (Y.qz CF U U U U) (.gw 13 (Y.qw (n:=p.ins.length) CG U dY) (.gw 13 (Y.qy U U) (.pk ?_))))
 refine .mv ?_
 refine .a8 (d:=19) U (fun r7=>?_) (fun r7=>?_)
 refine .gw 19 (Y.qo qG U U) (.gw 19 (Y.qz Ad U U U U) (.gw 19 (Y.qw (n:=p.parts.length) Ae U dY) (.gw 19 (Y.qy U U) (.pk ?_))))
 refine .mv ?_
 refine .a8 (d:=25) U (fun Pw=>?_) (fun Pw=>?_)
 refine .gw 25 (Y.qo Ac U U) (.gw 25 (Y.qz CF U U U U) (.gw 25 (Y.qw (n:=p.cH.length) CG U dY) (.gw 25 (Y.qy U U) (.pk ?_))))
 refine .an (.nil (.ret ?_))
 exact .rb rfl (dd ⟨fun h=>⟨om,om,om,om,om⟩,fun h=>by have h5:=h.cH; omega⟩)
 refine .gz 25 (.gz 25 (.gz 25 (.gz 25 (.pk ?_))))
 refine .an (.nil (.ret ?_))
 exact .rb rfl (df (fun h=>by have h1:=h.aD; have h2:=h.streams; have h3:=h.ins; have h4:=h.parts; have h5:=h.cH; omega))
 refine .gz 19 (.gz 19 (.gz 19 (.gz 19 (.pk ?_))))
 refine .mv ?_
 refine .gz 25 (.gz 25 (.gz 25 (.gz 25 (.pk ?_))))
 refine .an (.nil (.ret ?_))
 exact .rb rfl (df (fun h=>by have h1:=h.aD; have h2:=h.streams; have h3:=h.ins; have h4:=h.parts; have h5:=h.cH; omega))
 refine .gz 13 (.gz 13 (.gz 13 (.gz 13 (.pk ?_))))
 refine .mv ?_
 refine .gz 19 (.gz 19 (.gz 19 (.gz 19 (.pk ?_))))
 refine .mv ?_
 refine .gz 25 (.gz 25 (.gz 25 (.gz 25 (.pk ?_))))
 refine .an (.nil (.ret ?_))
 exact .rb rfl (df (fun h=>by have h1:=h.aD; have h2:=h.streams; have h3:=h.ins; have h4:=h.parts; have h5:=h.cH; omega))
 refine .gz 7 (.gz 7 (.gz 7 (.gz 7 (.pk ?_))))
 refine .mv ?_
 refine .gz 13 (.gz 13 (.gz 13 (.gz 13 (.pk ?_))))
 refine .mv ?_
 refine .gz 19 (.gz 19 (.gz 19 (.gz 19 (.pk ?_))))
 refine .mv ?_
 refine .gz 25 (.gz 25 (.gz 25 (.gz 25 (.pk ?_))))
 refine .an (.nil (.ret ?_))
 exact .rb rfl (df (fun h=>by have h1:=h.aD; have h2:=h.streams; have h3:=h.ins; have h4:=h.parts; have h5:=h.cH; omega))
open Go Go.AW Go.Proofs
theorem rR{p:nw}{a:Nat}{c:Cell}(hk:p.Ok)(ha:a < 256)(hc:IW c):aw Try.prog 11 [.agg (nw.row p),.v (.int .u8 (a:Int)),.agg (Cell.row c)] [] [] (fun r o=>r = .v (.bool true) /\ o = []):=by
 refine aw.of Try.func11 U U U (n:=45) ab (aH U) ?_
 have Vz:=hc.1; have Nl:=hc.2
 refine .sr (.box 103 U U U U U ab (.box 105 U U U U U ab ?_))
 refine .an ?_
 refine .nil (.seq (.sr (.aR Kw (nS) U .nil ab U (.vl (Y.zl U) (.mv ?_)))))
 refine .gw 12 (Y.za OF U U (aH U) U U) (.aC (d:=12) U ab U (.aR Ss (GA (p:=p)) U (.ai U U .nil) ab U ?_))
 refine .gw 12 (Y.zl U) (.pk ?_)
 refine .mv ?_
 refine .eR (d:=17) U (fun J8=>?_) (fun J8=>?_)
 refine .gz 17 (.gz 17 (.gz 17 (.gz 17 (.pk ?_))))
 refine .nil (.aQ U (.sr (.aR Kw (nS) U .nil ab U ?_)))
 refine .an (.nil (.ret ?_))
 exact .rb rfl (rfl)
 refine .gw 17 (Y.qo bT U U) (.gw 17 (Y.qz bn U U U U) (.gw 17 (Y.qw (n:=c.args.length) a7 U (congrArg some (List.length_map ..))) (.gw 17 (Y.qq U U) (.pk ?_))))
 refine .nil (.aB U (fun pU=>?_) (fun pU=>?_))
 refine .sr (.aR Kw (nS) U .nil ab U ?_)
 refine .an (.nil (.ret ?_))
 exact .rb rfl (rfl)
 refine .skip (.sr (.vl (Y.za OF U U (aH U) U U) (.rk Sp (Dq (p:=p) bO hk) U (.ai U U .nil) ab ?_)))
 rintro _ ⟨gf,sG,rfl,_⟩
 refine ⟨U,(.alloc 107 HD U U ab (.sh (Sh.wh (d:=25) 1 1001 gf.aa.length U U U ab (aW U)) (.sh (Sh.wh (d:=25) 2 1002 gf.cells.length U U U ab (aW U)) (.aj Kv U U U U U U (aH U) U (.nil (.seq ?_))))))⟩
 have hs:=sG.small; have hf:=sG.formed; have hFt:=sG.fit; have hAc:=sG.acyclic; have Qh:=sG.dm; have YA:=sG.cO; have NJ:=sG.EC; have Vt:=sG.uv; have QY:=Nat.mod_lt a (show 0 < gf.cells.length by omega)
 refine .kx 10 U au (.val (Y.qo bS U U) ab (.val (Y.qz fU U U U U) ab (.val (Y.zf U U) ab (.val (Y.qk vS r4 U yO) ab (.val (Y.qo bS U U) ab (.val (Y.qz fU U U U U) ab (.val (Y.qw (n:=gf.cells.length) dU U U) ab (.val (Y.zr U U om) ab (.val (Y.za fq U U (aH U) U U) ab (.val (Y.qs (m:=a % gf.cells.length) dU U U aY aJ) ab (.nil (.iB ((gf.cells.set (a % gf.cells.length) c).map Cell.row) gi U U U U U U U (aO (d:=default) aJ) (aH U) (eO U) ?_))))))))))))
 refine .nil (.seq (.sh (Sh.oO 107 1001 1 U U U (aW om) (cM.map aI) ab U U U) (.sh (Sh.oO 107 1002 2 U U U (aW aJ) (cM.map Cell.bE) ab U U U) ?_)))
 have WM:=sG.UL (c:=c) (k:=a % gf.cells.length) om Nl; have NJ:=sG.EC; have Co:=sG.vR; have Za:=sG.bZ; have QX:∀ x ∈ gf.cells.set (a % gf.cells.length) c,x.args.length <= 6:=fun x hx=>(by rcases List.mem_or_eq_of_mem_set hx with h | h; have:=sG.uv x h; omega; rw [h]; omega)
 refine .region (.vl (Y.za fF U U (aH U) U U) (.rk Su (xd (n:=(⟨gf.name,gf.aa,gf.cells.set (a % gf.cells.length) c,gf.ins,gf.aD,gf.streams,gf.bD,gf.data,gf.freeze,gf.done,gf.cH⟩:ae)) WM (by show gf.aa.length + gf.ins.length <= _; omega) ⟨by show (gf.cells.set _ _).length <= _; rw [List.length_set]; omega,by show gf.aa.length <= _; omega,by show gf.cH.length <= _; omega,by show gf.streams.length <= _; omega,by show gf.ins.length <= _; omega⟩ QX) U (.ai U U .nil) ab ?_))
 rintro _ ⟨Vc,e38,Vd,rfl,_⟩
 refine ⟨U,(.oE U ab (.iO U U ab (.vl (Y.qn U U U) (.alloc 108 jV U U ab (.sh (Sh.wh (d:=39) 0 1280 Vc.iv.length U U U ab (aW U)) (.sh (Sh.wh (d:=39) 1 1281 Vc.bits.length U U U ab (aW U)) (.sh (Sh.wh (d:=39) 2 1282 Vc.next.length U U U ab (aW U)) (.aj oJ U U U U U U (aH U) U ?_))))))))⟩
 refine .an (.nil (.sr ?_))
 refine .mv ?_
 refine .vl (Y.za fF U U (aH U) U U) (.aR So (vz (n:=(⟨gf.name,gf.aa,gf.cells.set (a % gf.cells.length) c,gf.ins,gf.aD,gf.streams,gf.bD,gf.data,gf.freeze,gf.done,gf.cH⟩:ae)) WM) U (.ai U U .nil) ab U (.vl (Y.ql U U) (.an (.nil (.ret ?_)))))
 exact .rb rfl (decide_eq_true Vd.err)
end Go.Proofs.Ytlimckldnjmabaa
