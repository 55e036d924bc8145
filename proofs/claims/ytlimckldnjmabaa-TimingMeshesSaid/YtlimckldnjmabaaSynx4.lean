/- The walk of late. -/
import Derived.Test.YtlimckldnjmabaaSynx0
import Derived.Test.YtlimckldnjmabaaSynx3
import Derived.Test.YtlimckldnjmabaaAWx2
import Derived.Test.YtlimckldnjmabaaSynx1
import Derived.Test.YtlimckldnjmabaaSynx2
set_option linter.unusedSimpArgs false
set_option linter.unusedVariables false
set_option linter.unusedSectionVars false
set_option maxRecDepth 4000
set_option maxHeartbeats 8000000
namespace Go.Proofs.Ytlimckldnjmabaa
open Go Go.AW Go.Proofs
theorem DP{nm:ByteArray}{ws ins:List Int}{cs:List Cell}{aA:List dW}{streams:List b8}{f0 d0:Int}{p:sb}{i cl:Nat}(z5:cl = cs.length)(hn:ws.length <= 1048576)(hc:cs.length <= 1048576)(hp:p.Ok)(hi:i < cs.length)(ho:In (cs.getD ((((cs.length:Int) - 1) - (i:Int)).toNat) default).out ws.length \/ (cs.getD ((((cs.length:Int) - 1) - (i:Int)).toNat) default).kind ≠ 4):ay Try.prog 66 [.ptr 0 0 0 0,.agg (sb.row p),vi i] [.cells [.v (.string nm),.aR 1 1 0 ws.length,.aR 2 6 0 cl,.fz 1 (ins.map ag),.fz 5 (aA.map dW.row),.fz 3 (streams.map b8.row),vn,vn,vi f0,vi d0,vn],.rows 1 (ws.map ag),.rows 6 (cs.map Cell.row)] [0,1,2] (fun r o=>r = .tup [] /\ o = [.cells [.v (.string nm),.aR 1 1 0 ws.length,.aR 2 6 0 cl,.fz 1 (ins.map ag),.fz 5 (aA.map dW.row),.fz 3 (streams.map b8.row),vn,vn,vi f0,vi d0,vn],.rows 1 (ws.map ag),.rows 6 ((sQ ws cs p i).map Cell.row)]):=by
 refine ay.of Try.func66 U U U (n:=62) ae (aL U) ?_
 subst z5
 have Yd:=hp.a; have RY:=hp.d
 refine .sr (.box 104 U U U U U ae (.nil (.seq (.sh (Sh.dD 104 U U) ?_))))
 refine .jm [0] [0,1,2,104] (⟨[(0,.ptr 0 0 0 0),(2,.v (.int .i64 (i:Int))),(4,.fp (sb.row p) 0),(6,.ptr 106 0 0 0)],[(0,.cells [.v (.string nm),.aR 1 1 0 ws.length,.aR 2 6 0 cs.length,.fz 1 (ins.map ag),.fz 5 (aA.map dW.row),.fz 3 (streams.map b8.row),vn,vn,.v (.int .i64 f0),.v (.int .i64 d0),vn]),(1,.rows 1 (ws.map ag)),(2,.rows 6 (cs.map Cell.row)),(106,.cells [.v (.int .i64 ((cs.getD ((((cs.length:Int) - 1) - (i:Int)).toNat) default).kind)),.v (.int .i64 ((cs.getD ((((cs.length:Int) - 1) - (i:Int)).toNat) default).op)),.v (.int .i64 ((cs.getD ((((cs.length:Int) - 1) - (i:Int)).toNat) default).out)),.fz 1 (((cs.getD ((((cs.length:Int) - 1) - (i:Int)).toNat) default).args).map ag),.v (.int .u64 (((cs.getD ((((cs.length:Int) - 1) - (i:Int)).toNat) default).num:Nat):Int)),.v (.int .i64 ((cs.getD ((((cs.length:Int) - 1) - (i:Int)).toNat) default).mem))])]⟩) U ?_ ?_
 refine .blind 0 U au (aw.move U U) ae (.blind 1 U au (aw.nilCheck U U) ae (.blind 2 U au (aw.fieldAddr cK U U) ae ?_))
 refine .load 3 U au iz U U U U U ae (.blind 4 U au (aw.move U U) ae (.blind 5 U au (aw.nilCheck U U) ae ?_))
 refine .blind 6 U au (aw.fieldAddr cK U U) ae (.load 7 U au iz U U U U U ae (.blind 8 U au (aw.len (n:=cs.length) dZ U U) ae ?_))
 refine .blind 9 U au (aw.P5 U U om) ae (.blind 10 U au (aw.move U U) ae (.blind 11 U au (aw.P5 U U om) ae (.blind 12 U au (aw.uy (m:=(((cs.length:Int) - 1) - (i:Int)).toNat) dZ U U om om) ae (.DZ U U (bJ.cells U U U bJ.nil) ?_))))
 refine .two 13 14 U U au ?_ ?_
 refine .vl (Y.zc fq U (aI (d:=default) aH) (aL U) U U) (.nil ⟨U,(.one 14 U au (.alloc 106 e8 U U ae ?_))⟩)
 refine .nil ⟨U,(.one 15 U au (.ao fJ U U U U U U (aL U) U ?_))⟩
 exact .nil ⟨U,(.done au (Le.mk (.c2 (.c (.c .nil))) (.c2 (.c (.c .nil)))))⟩
 refine .alloc 106 e8 U U ae ?_
 refine .nil ⟨U,(.one 13 U au (.vl (Y.zc fq U (aI (d:=default) aH) (aL U) U U) (.nil ⟨U,(.one 15 U au (.ao fJ U U U U U U (aL U) U ?_))⟩)))⟩
 exact .nil ⟨U,(.done au (Le.mk (.c2 (.c (.c .nil))) (.c2 (.c (.c .nil)))))⟩
 refine .le (aW:=⟨[(0,.ptr 0 0 0 0),(2,vi i),(4,.fp (sb.row p) 0),(6,.ptr 106 0 0 0)],[(0,.cells [.v (.string nm),.aR 1 1 0 ws.length,.aR 2 6 0 cs.length,.fz 1 (ins.map ag),.fz 5 (aA.map dW.row),.fz 3 (streams.map b8.row),vn,vn,vi f0,vi d0,vn]),(1,.rows 1 (ws.map ag)),(2,.rows 6 (cs.map Cell.row)),(106,.cells [vi ((cs.getD ((((cs.length:Int) - 1) - (i:Int)).toNat) default).kind),vi ((cs.getD ((((cs.length:Int) - 1) - (i:Int)).toNat) default).op),vi ((cs.getD ((((cs.length:Int) - 1) - (i:Int)).toNat) default).out),.fz 1 (((cs.getD ((((cs.length:Int) - 1) - (i:Int)).toNat) default).args).map ag),.v (.int .u64 (((cs.getD ((((cs.length:Int) - 1) - (i:Int)).toNat) default).num:Nat):Int)),vi ((cs.getD ((((cs.length:Int) - 1) - (i:Int)).toNat) default).mem)])]⟩) (Le.mk (.c2 (.c (.c .nil))) (.c2 (.c (.c .nil)))) (.sr ?_)
 refine .fa du ?_
 refine .ld bw ?_
 refine .vl (Y.qm U U) (.nil ?_)
 refine .le (aW:=⟨[(0,.ptr 0 0 0 0),(2,vi i),(4,.fp (sb.row p) 0),(6,.ptr 106 0 0 0),(23,.v (.bool (decide (((cs.getD ((((cs.length:Int) - 1) - (i:Int)).toNat) default).kind) = 4))))],[(0,.cells [.v (.string nm),.aR 1 1 0 ws.length,.aR 2 6 0 cs.length,.fz 1 (ins.map ag),.fz 5 (aA.map dW.row),.fz 3 (streams.map b8.row),vn,vn,vi f0,vi d0,vn]),(1,.rows 1 (ws.map ag)),(2,.rows 6 (cs.map Cell.row)),(106,.cells [vi ((cs.getD ((((cs.length:Int) - 1) - (i:Int)).toNat) default).kind),vi ((cs.getD ((((cs.length:Int) - 1) - (i:Int)).toNat) default).op),vi ((cs.getD ((((cs.length:Int) - 1) - (i:Int)).toNat) default).out),.fz 1 (((cs.getD ((((cs.length:Int) - 1) - (i:Int)).toNat) default).args).map ag),.v (.int .u64 (((cs.getD ((((cs.length:Int) - 1) - (i:Int)).toNat) default).num:Nat):Int)),vi ((cs.getD ((((cs.length:Int) - 1) - (i:Int)).toNat) default).mem)])]⟩) (Le.mk (.c4 (.c .nil)) (.c2 (.c (.c .nil)))) ?_
 refine .a8 U (fun Kc=>?_) (fun Kc=>?_)
 have Ee:=ho.resolve_right (fun h=>h Kc)
 unfold In at Ee
 refine .seq ?_
 refine .jm [0] [0,1,2,106] (⟨[(0,.ptr 0 0 0 0),(2,.v (.int .i64 (i:Int))),(6,.ptr 106 0 0 0)],[(0,.cells [.v (.string nm),.aR 1 1 0 ws.length,.aR 2 6 0 cs.length,.fz 1 (ins.map ag),.fz 5 (aA.map dW.row),.fz 3 (streams.map b8.row),vn,vn,.v (.int .i64 f0),.v (.int .i64 d0),vn]),(1,.rows 1 (ws.map ag)),(2,.rows 6 (cs.map Cell.row)),(106,.cells [.v (.int .i64 ((cs.getD ((((cs.length:Int) - 1) - (i:Int)).toNat) default).kind)),.v (.int .i64 ((cs.getD ((((cs.length:Int) - 1) - (i:Int)).toNat) default).op)),.v (.int .i64 ((cs.getD ((((cs.length:Int) - 1) - (i:Int)).toNat) default).out)),.fz 1 (([aB ws 1 p.a,aB ws (ws.getD (((cs.getD ((((cs.length:Int) - 1) - (i:Int)).toNat) default).out).toNat) 0) p.d]:List Int).map ag),.v (.int .u64 (((cs.getD ((((cs.length:Int) - 1) - (i:Int)).toNat) default).num:Nat):Int)),.v (.int .i64 ((cs.getD ((((cs.length:Int) - 1) - (i:Int)).toNat) default).mem))])]⟩) U ?_ ?_
 refine .blind 0 U au (aw.move U U) ae (.blind 1 U au (aw.nilCheck U U) ae (.fu 2 U au er U U U (aL U) U U ae ?_))
 refine .blind 3 U au (aw.fieldAddr j0 U U) ae (.blind 4 U au (aw.l9 oP U U (m:=0) U om U) ae (.load 5 U au sS U U U U U ae ?_))
 refine .blind 7 U au (aw.move U U) ae (.blind 8 U au (aw.nilCheck U U) ae (.fu 9 U au er U U U (aL U) U U ae ?_))
 refine .blind 10 U au (aw.move U U) ae (.blind 11 U au (aw.nilCheck U U) ae (.blind 12 U au (aw.fieldAddr cg U U) ae ?_))
 refine .load 13 U au bu U U U U U ae (.blind 14 U au (aw.fieldAddr eR U U) ae (.blind 18 U au (aw.fieldAddr j0 U U) ae ?_))
 refine .blind 19 U au (aw.l9 oP U U (m:=2) U om U) ae (.load 20 U au sS U U U U U ae (.DZ U U (bJ.cells U U U bJ.nil) ?_))
 refine .two 6 15 U U au ?_ ?_
 refine .jL [1,2] jc (cv (n:=(⟨nm,ws,cs,ins,aA,streams,[],[],f0,d0,[]⟩:ab)) (w:=1) (k:=p.a) (by show (ws).length <= 1048576; omega) om) U (.agg (.ai U U (.cI U U (bB om) (bC om) (.cI U U (bB om) (bC om) (.ai U U (.ai U U (.ai U U (.ai U U (.ai U U (.ai U U (.ai U U (.ai U U .nil))))))))))) U (.ai U U (.ai U U .nil))) (eJ U (br aE) (kN U (br Cell.bx))) ae U trivial ?_
 refine .nil ⟨U,(.one 15 U au (.ld bw ?_))⟩
 refine .nil ⟨U,(.one 16 U au (.vl (Y.qu (m:=((cs.getD ((((cs.length:Int) - 1) - (i:Int)).toNat) default).out).toNat) az U U om om) (.nil ⟨U,(.one 17 U au (.vl (Y.zb bw U (aI (d:=0) om) U U) (.nil ⟨U,?_⟩)))⟩)))⟩
 refine .one 21 U au (.jL [1,2] jc (cv (n:=(⟨nm,ws,cs,ins,aA,streams,[],[],f0,d0,[]⟩:ab)) (w:=(ws.getD (((cs.getD ((((cs.length:Int) - 1) - (i:Int)).toNat) default).out).toNat) 0)) (k:=p.d) (by show (ws).length <= 1048576; omega) om) U (.agg (.ai U U (.cI U U (bB om) (bC om) (.cI U U (bB om) (bC om) (.ai U U (.ai U U (.ai U U (.ai U U (.ai U U (.ai U U (.ai U U (.ai U U .nil))))))))))) U (.ai U U (.ai U U .nil))) (eJ U (br aE) (kN U (br Cell.bx))) ae U trivial ?_)
 refine .nil ⟨U,(.one 22 U au (.buildSlice (([aB ws 1 p.a,aB ws (ws.getD (((cs.getD ((((cs.length:Int) - 1) - (i:Int)).toNat) default).out).toNat) 0) p.d]:List Int).map ag) az cP U U U U U (aj (s:=1) (f:=ag) (fun _=>U)) U U U ae ?_))⟩
 refine .nil ⟨U,(.one 23 U au (.fa cd ?_))⟩
 refine .nil ⟨U,(.one 24 U au (.sh (Sh.bS (d:=46) (([aB ws 1 p.a,aB ws (ws.getD (((cs.getD ((((cs.length:Int) - 1) - (i:Int)).toNat) default).out).toNat) 0) p.d]:List Int).map ag) U fI (bN.map aE)) (.ao eD U U U U U U (aL U) U ?_)))⟩
 exact .nil ⟨U,(.done au (Le.mk (.c2 (.c .nil)) (.c2 (.c (.c .nil)))))⟩
 refine .ld bw ?_
 refine .nil ⟨U,(.blind 16 U au (aw.uy (m:=((cs.getD ((((cs.length:Int) - 1) - (i:Int)).toNat) default).out).toNat) az U U om om) ae ?_)⟩
 refine .two 6 17 U U au ?_ ?_
 refine .jL [1,2] jc (cv (n:=(⟨nm,ws,cs,ins,aA,streams,[],[],f0,d0,[]⟩:ab)) (w:=1) (k:=p.a) (by show (ws).length <= 1048576; omega) om) U (.agg (.ai U U (.cI U U (bB om) (bC om) (.cI U U (bB om) (bC om) (.ai U U (.ai U U (.ai U U (.ai U U (.ai U U (.ai U U (.ai U U (.ai U U .nil))))))))))) U (.ai U U (.ai U U .nil))) (eJ U (br aE) (kN U (br Cell.bx))) ae U trivial ?_
 refine .nil ⟨U,(.one 17 U au (.vl (Y.zb bw U (aI (d:=0) om) U U) (.nil ⟨U,(.one 21 U au (.jL [1,2] jc (cv (n:=(⟨nm,ws,cs,ins,aA,streams,[],[],f0,d0,[]⟩:ab)) (w:=(ws.getD (((cs.getD ((((cs.length:Int) - 1) - (i:Int)).toNat) default).out).toNat) 0)) (k:=p.d) (by show (ws).length <= 1048576; omega) om) U (.agg (.ai U U (.cI U U (bB om) (bC om) (.cI U U (bB om) (bC om) (.ai U U (.ai U U (.ai U U (.ai U U (.ai U U (.ai U U (.ai U U (.ai U U .nil))))))))))) U (.ai U U (.ai U U .nil))) (eJ U (br aE) (kN U (br Cell.bx))) ae U trivial ?_))⟩)))⟩
 refine .nil ⟨U,(.one 22 U au (.buildSlice (([aB ws 1 p.a,aB ws (ws.getD (((cs.getD ((((cs.length:Int) - 1) - (i:Int)).toNat) default).out).toNat) 0) p.d]:List Int).map ag) az cP U U U U U (aj (s:=1) (f:=ag) (fun _=>U)) U U U ae ?_))⟩
 refine .nil ⟨U,(.one 23 U au (.fa cd ?_))⟩
 refine .nil ⟨U,(.one 24 U au (.sh (Sh.bS (d:=46) (([aB ws 1 p.a,aB ws (ws.getD (((cs.getD ((((cs.length:Int) - 1) - (i:Int)).toNat) default).out).toNat) 0) p.d]:List Int).map ag) U fI (bN.map aE)) (.ao eD U U U U U U (aL U) U ?_)))⟩
 exact .nil ⟨U,(.done au (Le.mk (.c2 (.c .nil)) (.c2 (.c (.c .nil)))))⟩
 refine .vl (Y.zb bw U (aI (d:=0) om) U U) (.nil ⟨U,(.one 6 U au (.jL [1,2] jc (cv (n:=(⟨nm,ws,cs,ins,aA,streams,[],[],f0,d0,[]⟩:ab)) (w:=1) (k:=p.a) (by show (ws).length <= 1048576; omega) om) U (.agg (.ai U U (.cI U U (bB om) (bC om) (.cI U U (bB om) (bC om) (.ai U U (.ai U U (.ai U U (.ai U U (.ai U U (.ai U U (.ai U U (.ai U U .nil))))))))))) U (.ai U U (.ai U U .nil))) (eJ U (br aE) (kN U (br Cell.bx))) ae U trivial ?_))⟩)
 refine .nil ⟨U,(.one 21 U au (.jL [1,2] jc (cv (n:=(⟨nm,ws,cs,ins,aA,streams,[],[],f0,d0,[]⟩:ab)) (w:=(ws.getD (((cs.getD ((((cs.length:Int) - 1) - (i:Int)).toNat) default).out).toNat) 0)) (k:=p.d) (by show (ws).length <= 1048576; omega) om) U (.agg (.ai U U (.cI U U (bB om) (bC om) (.cI U U (bB om) (bC om) (.ai U U (.ai U U (.ai U U (.ai U U (.ai U U (.ai U U (.ai U U (.ai U U .nil))))))))))) U (.ai U U (.ai U U .nil))) (eJ U (br aE) (kN U (br Cell.bx))) ae U trivial ?_))⟩
 refine .nil ⟨U,(.one 22 U au (.buildSlice (([aB ws 1 p.a,aB ws (ws.getD (((cs.getD ((((cs.length:Int) - 1) - (i:Int)).toNat) default).out).toNat) 0) p.d]:List Int).map ag) az cP U U U U U (aj (s:=1) (f:=ag) (fun _=>U)) U U U ae ?_))⟩
 refine .nil ⟨U,(.one 23 U au (.fa cd ?_))⟩
 refine .nil ⟨U,(.one 24 U au (.sh (Sh.bS (d:=46) (([aB ws 1 p.a,aB ws (ws.getD (((cs.getD ((((cs.length:Int) - 1) - (i:Int)).toNat) default).out).toNat) 0) p.d]:List Int).map ag) U fI (bN.map aE)) (.ao eD U U U U U U (aL U) U ?_)))⟩
 exact .nil ⟨U,(.done au (Le.mk (.c2 (.c .nil)) (.c2 (.c (.c .nil)))))⟩
 refine .le (aW:=⟨[(0,.ptr 0 0 0 0),(2,vi i),(6,.ptr 106 0 0 0)],[(0,.cells [.v (.string nm),.aR 1 1 0 ws.length,.aR 2 6 0 cs.length,.fz 1 (ins.map ag),.fz 5 (aA.map dW.row),.fz 3 (streams.map b8.row),vn,vn,vi f0,vi d0,vn]),(1,.rows 1 (ws.map ag)),(2,.rows 6 (cs.map Cell.row)),(106,.cells [vi ((cs.getD ((((cs.length:Int) - 1) - (i:Int)).toNat) default).kind),vi ((cs.getD ((((cs.length:Int) - 1) - (i:Int)).toNat) default).op),vi ((cs.getD ((((cs.length:Int) - 1) - (i:Int)).toNat) default).out),.fz 1 (([aB ws 1 p.a,aB ws (ws.getD (((cs.getD ((((cs.length:Int) - 1) - (i:Int)).toNat) default).out).toNat) 0) p.d]:List Int).map ag),.v (.int .u64 (((cs.getD ((((cs.length:Int) - 1) - (i:Int)).toNat) default).num:Nat):Int)),vi ((cs.getD ((((cs.length:Int) - 1) - (i:Int)).toNat) default).mem)])]⟩) (Le.mk (.c2 (.c .nil)) (.c2 (.c (.c .nil)))) ?_
 refine .px 14 U au (.val (Y.zh U U) ae (.val (Y.zm U U) ae (.val (Y.qp cK U U) ae (.val (Y.zb iz U U U U) ae (.val (Y.zh U U) ae (.val (Y.zm U U) ae (.val (Y.qp cK U U) ae (.val (Y.zb iz U U U U) ae ?_))))))))
 refine .val (Y.qy (n:=cs.length) dZ U U) ae (.val (Y.wc U U om) ae (.val (Y.zh U U) ae (.val (Y.wc U U om) ae (.val (Y.zc fq U U (aL U) U U) ae (.val (Y.qu (m:=(((cs.length:Int) - 1) - (i:Int)).toNat) dZ U U om om) ae (.nil (.eH ((cs.set ((((cs.length:Int) - 1) - (i:Int)).toNat) (⟨(cs.getD ((((cs.length:Int) - 1) - (i:Int)).toNat) default).kind,(cs.getD ((((cs.length:Int) - 1) - (i:Int)).toNat) default).op,(cs.getD ((((cs.length:Int) - 1) - (i:Int)).toNat) default).out,([aB ws 1 p.a,aB ws (ws.getD (((cs.getD ((((cs.length:Int) - 1) - (i:Int)).toNat) default).out).toNat) 0) p.d]:List Int),(cs.getD ((((cs.length:Int) - 1) - (i:Int)).toNat) default).num,(cs.getD ((((cs.length:Int) - 1) - (i:Int)).toNat) default).mem⟩:Cell)).map Cell.row) fJ U U U U U U U (aI (d:=default) om) (aL U) (cY U) (.nil ⟨_,_,U,U,U,(by unfold sQ; rw [if_pos Kc])⟩))))))))
 refine .skip ⟨_,_,U,U,U,(by unfold sQ; rw [if_neg Kc])⟩
open Go Go.AW Go.Proofs
theorem DQ{p:nt}(hf:p.R3)(hk:p.Ok):ay Try.prog 22 [.agg (nt.row p)] [] [] (fun r o=>∃ n,JA n /\ r = .agg (ab.iw n) /\ o = []):=by
 refine ay.R6 Try.func22 U U U (n:=252) ae (aL U) ?_
 have RN:=hf.aA; have MU:=hf.streams; have JZ:=hf.ins; have Xr:=hf.parts; have hf5:=hf.bF; have We:=hk.parts
 refine .sr (.box 101 U U U U U ae (.alloc 102 Dg U U ae ?_))
 refine .nil (.sr (.vl (Y.qh Pe Dg U U U) (.alloc 103 Dg U U ae (.ao Io U U U U U U (aL U) U (.nil (.seq (.seq (.sh (Sh.dD 101 U U) (.sh (Sh.eW 103 401 1 1 U U U U ae) (.sh (Sh.eW 103 402 6 2 U U U U ae) (.sh (Sh.eW 103 403 1 3 U U U U ae) (.sh (Sh.eW 103 404 5 4 U U U U ae) (.sh (Sh.eW 103 405 3 5 U U U U ae) (.region (.an (.nil (.block ?_)))))))))))))))))
 refine .eg (fun (eM:Nat) (dV:List Int) (eo:List Cell)=>⟨[(1,.fp (nt.row p) 0),(2,.ptr 102 0 0 0),(3,.ptr 103 0 0 0),(4,vi eM)],[(102,.cells [.v (.string ByteArray.empty),vn,vn,vn,vn,vn,vn,vn,vi 0,vi 0,vn]),(103,.cells [.v (.string nB),.aR 401 1 0 dV.length,.aR 402 6 0 eo.length,.aR 403 1 0 0,.aR 404 5 0 0,.aR 405 3 0 0,vn,vn,vi 0,vi 0,vn]),(401,.rows 1 (dV.map ag)),(402,.rows 6 (eo.map Cell.row)),(403,.rows 1 (([]:List Int).map ag)),(404,.rows 5 (([]:List dW).map dW.row)),(405,.rows 3 (([]:List b8).map b8.row))]⟩) (fun eM dV eo=>((eM:Int) <= 8) /\ (dV = zF eM) /\ (eo = DY eM) /\ (dV.length = eM) /\ (eo.length = eM)) (fun eM dV eo=>(8 - (eM:Int)).toNat) 0 ([]:List Int) ([]:List Cell) (⟨om,U,U,U,U⟩) (Le.mk (.c2 (.c (.cons (ak U bj) .nil))) (.c (.cons (ax U ep) (.c4 (.c .nil))))) (fun eM dV eo qM=>?_)
 obtain ⟨Ec,QU,JS,Wf,Wh⟩:=qM
 refine .seq (.sr (.mv ?_))
 refine .vl (Y.zd U U) (.nil (.a8 U (fun yF=>?_) (fun yF=>?_)))
 refine .skip (.seq (.block (.seq (.dQ (⟨[(1,.fp (nt.row p) 0),(2,.ptr 102 0 0 0),(3,.ptr 103 0 0 0),(4,.v (.int .i64 (eM:Int)))],[(102,.cells [.v (.string ByteArray.empty),vn,vn,vn,vn,vn,vn,vn,.v (.int .i64 0),.v (.int .i64 0),vn]),(103,.cells [.v (.string nB),.aR 401 1 0 ((dV ++ ([a7 eM]:List Int)).length),.aR 402 6 0 eo.length,.aR 403 1 0 0,.aR 404 5 0 0,.aR 405 3 0 0,vn,vn,.v (.int .i64 0),.v (.int .i64 0),vn]),(401,.rows 1 ((dV ++ ([a7 eM]:List Int)).map ag)),(402,.rows 6 (eo.map Cell.row)),(403,.rows 1 (([]:List Int).map ag)),(404,.rows 5 (([]:List dW).map dW.row)),(405,.rows 3 (([]:List b8).map b8.row))]⟩) U ?_ ?_))))
 refine .blind 0 U au (aw.fieldAddr cg U U) ae (.blind 2 U au (aw.move U U) ae ?_)
 refine .blind 3 U au (aw.vI sx w9 U (by first | rfl | exact IntWalk.u8_in _ om)) ae (.yo ?_)
 refine .two 1 4 U U au ?_ ?_
 refine .ld bu ?_
 refine .nil ⟨U,(.one 4 U au (.bm vj (fG (k:=eM)) U (.ai U U .nil) ae U ?_))⟩
 refine .nil ⟨U,(.one 5 U au (.buildSlice (([a7 eM]:List Int).map ag) az cP U U U U U (aj (s:=1) (f:=ag) (fun _=>U)) U U U ae ?_))⟩
 refine .nil ⟨U,(.one 6 U au (.cL ag (dV ++ ([a7 eM]:List Int)) az cP U U U U (aV bP) (aM bP) (bs bP) bP bP ae ae ?_))⟩
 refine .nil ⟨U,(.one 7 U au (.fa cg ?_))⟩
 refine .nil ⟨U,(.one 8 U au (.ao eD U U U U U U (aL U) U ?_))⟩
 exact .nil ⟨U,(.done au (Le.mk (.c2 (.c (.c .nil))) (.c4 (.c2 (.c .nil)))))⟩
 refine .bm vj (fG (k:=eM)) U (.ai U U .nil) ae U ?_
 refine .nil ⟨U,(.two 1 5 U U au ?_ ?_)⟩
 refine .ld bu ?_
 refine .nil ⟨U,(.one 5 U au (.buildSlice (([a7 eM]:List Int).map ag) az cP U U U U U (aj (s:=1) (f:=ag) (fun _=>U)) U U U ae ?_))⟩
 refine .nil ⟨U,(.one 6 U au (.cL ag (dV ++ ([a7 eM]:List Int)) az cP U U U U (aV bP) (aM bP) (bs bP) bP bP ae ae ?_))⟩
 refine .nil ⟨U,(.one 7 U au (.fa cg ?_))⟩
 refine .nil ⟨U,(.one 8 U au (.ao eD U U U U U U (aL U) U ?_))⟩
 exact .nil ⟨U,(.done au (Le.mk (.c2 (.c (.c .nil))) (.c4 (.c2 (.c .nil)))))⟩
 refine .buildSlice (([a7 eM]:List Int).map ag) az cP U U U U U (aj (s:=1) (f:=ag) (fun _=>U)) U U U ae ?_
 refine .nil ⟨U,(.one 1 U au (.ld bu ?_))⟩
 refine .nil ⟨U,(.one 6 U au (.cL ag (dV ++ ([a7 eM]:List Int)) az cP U U U U (aV bP) (aM bP) (bs bP) bP bP ae ae ?_))⟩
 refine .nil ⟨U,(.one 7 U au (.fa cg ?_))⟩
 refine .nil ⟨U,(.one 8 U au (.ao eD U U U U U U (aL U) U ?_))⟩
 exact .nil ⟨U,(.done au (Le.mk (.c2 (.c (.c .nil))) (.c4 (.c2 (.c .nil)))))⟩
 refine .le (aW:=⟨[(1,.fp (nt.row p) 0),(2,.ptr 102 0 0 0),(3,.ptr 103 0 0 0),(4,vi eM)],[(102,.cells [.v (.string ByteArray.empty),vn,vn,vn,vn,vn,vn,vn,vi 0,vi 0,vn]),(103,.cells [.v (.string nB),.aR 401 1 0 ((dV ++ ([a7 eM]:List Int)).length),.aR 402 6 0 eo.length,.aR 403 1 0 0,.aR 404 5 0 0,.aR 405 3 0 0,vn,vn,vi 0,vi 0,vn]),(401,.rows 1 ((dV ++ ([a7 eM]:List Int)).map ag)),(402,.rows 6 (eo.map Cell.row)),(403,.rows 1 (([]:List Int).map ag)),(404,.rows 5 (([]:List dW).map dW.row)),(405,.rows 3 (([]:List b8).map b8.row))]⟩) (Le.mk (.c2 (.c (.c .nil))) (.c4 (.c2 (.c .nil)))) (.region (.fa cK ?_))
 refine .ld iz ?_
 refine .mv ?_
 refine .mv ?_
 refine .vl (Y.zt U U om) (.vl (Y.ql sx Av U (by first | rfl | exact IntWalk.u64_in _ om)) (.vl (Y.qh wA e8 U U U) (.sh (Sh.zD (d:=33) 1 3 U U) (.buildSlice (([(⟨1,0,(eM:Int),([]:List Int),eM % 2,0⟩:Cell)]:List Cell).map Cell.row) dZ e8 U U U U U (aj (s:=6) (f:=Cell.row) (fun _=>U)) U U U ae ?_))))
 refine .cL Cell.row (eo ++ ([(⟨1,0,(eM:Int),([]:List Int),eM % 2,0⟩:Cell)]:List Cell)) dZ e8 U U U U (aV bP) (aM bP) (bs bP) bP bP ae ae ?_
 refine .fa cK ?_
 refine .ao wB U U U U U U (aL U) U (.nil (.region (.mv ?_)))
 refine .vl (Y.qb U U om) (.an ?_)
 refine .nil (⟨eM + 1,dV ++ ([a7 eM]:List Int),eo ++ ([(⟨1,0,(eM:Int),([]:List Int),eM % 2,0⟩:Cell)]:List Cell),⟨om,by rw [QU]; exact (Fa _).symm,by rw [JS]; exact (Fb _).symm,by rw [List.length_append,Wf]; rfl,by rw [List.length_append,Wh]; rfl⟩,om,Le.mk (.c2 (.c (.cons (ak U bj) .nil))) (.c (.cons (ax U ep) (.c4 (.c .nil))))⟩)
 refine .exit (.seq (.sr (.an (.nil (.block ?_)))))
 refine .fH (fun (gI:Nat) (bU:List dW)=>⟨[(1,.fp (nt.row p) 0),(2,.ptr 102 0 0 0),(3,.ptr 103 0 0 0),(5,vi gI)],[(102,.cells [.v (.string ByteArray.empty),vn,vn,vn,vn,vn,vn,vn,vi 0,vi 0,vn]),(103,.cells [.v (.string nB),.aR 401 1 0 dV.length,.aR 402 6 0 eo.length,.aR 403 1 0 0,.aR 404 5 0 bU.length,.aR 405 3 0 0,vn,vn,vi 0,vi 0,vn]),(401,.rows 1 (dV.map ag)),(402,.rows 6 (eo.map Cell.row)),(403,.rows 1 (([]:List Int).map ag)),(404,.rows 5 (bU.map dW.row)),(405,.rows 3 (([]:List b8).map b8.row))]⟩) (fun gI bU=>((gI:Int) <= (p.aA.length:Int)) /\ (∀ m ∈ bU,mM m /\ ∃ k,m.width = a7 k) /\ (bU.length = gI)) (fun gI bU=>((p.aA.length:Int) - (gI:Int)).toNat) 0 ([]:List dW) (⟨om,fun m h=>(by cases h),U⟩) (Le.mk (.c2 (.c (.cons (ak U bj) .nil))) (.c (.cons (ax U ep) (.c4 (.c .nil))))) (fun gI bU hI8=>?_)
 obtain ⟨hb8,hm,MV⟩:=hI8
 refine .seq (.sr (.mv ?_))
 refine .fa wC ?_
 refine .ld yh ?_
 refine .vl (Y.qy (n:=p.aA.length) yi U fk) (.vl (Y.zd U U) (.nil (.a8 U (fun Gn=>?_) (fun Gn=>?_))))
 refine .skip (.seq (.block ?_))
 have Ml:=hk.aA (p.aA.getD gI default) (getD_in om)
 refine .dQ (⟨[(1,.fp (nt.row p) 0),(2,.ptr 102 0 0 0),(3,.ptr 103 0 0 0),(5,.v (.int .i64 (gI:Int)))],[(102,.cells [.v (.string ByteArray.empty),vn,vn,vn,vn,vn,vn,vn,.v (.int .i64 0),.v (.int .i64 0),vn]),(103,.cells [.v (.string nB),.aR 401 1 0 dV.length,.aR 402 6 0 eo.length,.aR 403 1 0 0,.aR 404 5 0 ((bU ++ ([(⟨mB,a7 ((p.aA.getD gI default).a),1 + ((((p.aA.getD gI default).b:Nat):Int) % 9),0,0⟩:dW)]:List dW)).length),.aR 405 3 0 0,vn,vn,.v (.int .i64 0),.v (.int .i64 0),vn]),(401,.rows 1 (dV.map ag)),(402,.rows 6 (eo.map Cell.row)),(403,.rows 1 (([]:List Int).map ag)),(404,.rows 5 ((bU ++ ([(⟨mB,a7 ((p.aA.getD gI default).a),1 + ((((p.aA.getD gI default).b:Nat):Int) % 9),0,0⟩:dW)]:List dW)).map dW.row)),(405,.rows 3 (([]:List b8).map b8.row))]⟩) U ?_ ?_
 refine .blind 0 U au (aw.fieldAddr gP U U) ae (.blind 2 U au (aw.fieldAddr wC U U) ae (.load 3 U au yh U U U U U ae ?_))
 refine .blind 4 U au (aw.move U U) ae (.blind 5 U au (aw.j6 (m:=gI) yi U U bj (aq (d:=default) om)) ae ?_)
 refine .blind 6 U au (aw.l9 Ij U U (m:=0) U om U) ae (.load 7 U au sS U U U U U ae (.blind 9 U au (aw.fieldAddr wC U U) ae ?_))
 refine .load 10 U au yh U U U U U ae (.blind 11 U au (aw.move U U) ae ?_)
 refine .blind 12 U au (aw.j6 (m:=gI) yi U U bj (aq (d:=default) om)) ae ?_
 refine .blind 13 U au (aw.l9 Ij U U (m:=1) U om U) ae (.load 14 U au sS U U U U U ae ?_)
 refine .blind 15 U au (aw.Ft U U om) ae (.blind 16 U au (aw.vI w9 sx U Ai) ae (.blind 17 U au (aw.It U U om) ae (.yo ?_)))
 refine .two 1 8 U U au ?_ ?_
 refine .ld pN ?_
 refine .nil ⟨U,(.one 8 U au (.bm vj (fG (k:=((p.aA.getD gI default).a))) U (.ai U U .nil) ae U ?_))⟩
 refine .nil ⟨U,(.one 18 U au (.vl (Y.qh Fi nY U U U) (.nil ⟨U,(.one 19 U au (.buildSlice (([(⟨mB,a7 ((p.aA.getD gI default).a),1 + ((((p.aA.getD gI default).b:Nat):Int) % 9),0,0⟩:dW)]:List dW).map dW.row) mw nY U U U U U (aj (s:=5) (f:=dW.row) (fun _=>U)) U U U ae ?_))⟩)))⟩
 refine .nil ⟨U,(.one 20 U au (.cL dW.row (bU ++ ([(⟨mB,a7 ((p.aA.getD gI default).a),1 + ((((p.aA.getD gI default).b:Nat):Int) % 9),0,0⟩:dW)]:List dW)) mw nY U U U U (aV bP) (aM bP) (bs bP) bP bP ae ae ?_))⟩
 refine .nil ⟨U,(.one 21 U au (.fa gP ?_))⟩
 refine .nil ⟨U,(.one 22 U au (.ao Il U U U U U U (aL U) U ?_))⟩
 exact .nil ⟨U,(.done au (Le.mk (.c2 (.c (.c .nil))) (.c4 (.c2 (.c .nil)))))⟩
 refine .bm vj (fG (k:=((p.aA.getD gI default).a))) U (.ai U U .nil) ae U ?_
 refine .nil ⟨U,(.two 1 18 U U au ?_ ?_)⟩
 refine .ld pN ?_
 refine .nil ⟨U,(.one 18 U au (.vl (Y.qh Fi nY U U U) (.nil ⟨U,(.one 19 U au (.buildSlice (([(⟨mB,a7 ((p.aA.getD gI default).a),1 + ((((p.aA.getD gI default).b:Nat):Int) % 9),0,0⟩:dW)]:List dW).map dW.row) mw nY U U U U U (aj (s:=5) (f:=dW.row) (fun _=>U)) U U U ae ?_))⟩)))⟩
 refine .nil ⟨U,(.one 20 U au (.cL dW.row (bU ++ ([(⟨mB,a7 ((p.aA.getD gI default).a),1 + ((((p.aA.getD gI default).b:Nat):Int) % 9),0,0⟩:dW)]:List dW)) mw nY U U U U (aV bP) (aM bP) (bs bP) bP bP ae ae ?_))⟩
 refine .nil ⟨U,(.one 21 U au (.fa gP ?_))⟩
 refine .nil ⟨U,(.one 22 U au (.ao Il U U U U U U (aL U) U ?_))⟩
 exact .nil ⟨U,(.done au (Le.mk (.c2 (.c (.c .nil))) (.c4 (.c2 (.c .nil)))))⟩
 refine .vl (Y.qh Fi nY U U U) (.nil ⟨U,(.two 1 19 U U au ?_ ?_)⟩)
 refine .ld pN ?_
 refine .nil ⟨U,(.one 19 U au (.buildSlice (([(⟨mB,a7 ((p.aA.getD gI default).a),1 + ((((p.aA.getD gI default).b:Nat):Int) % 9),0,0⟩:dW)]:List dW).map dW.row) mw nY U U U U U (aj (s:=5) (f:=dW.row) (fun _=>U)) U U U ae ?_))⟩
 refine .nil ⟨U,(.one 20 U au (.cL dW.row (bU ++ ([(⟨mB,a7 ((p.aA.getD gI default).a),1 + ((((p.aA.getD gI default).b:Nat):Int) % 9),0,0⟩:dW)]:List dW)) mw nY U U U U (aV bP) (aM bP) (bs bP) bP bP ae ae ?_))⟩
 refine .nil ⟨U,(.one 21 U au (.fa gP ?_))⟩
 refine .nil ⟨U,(.one 22 U au (.ao Il U U U U U U (aL U) U ?_))⟩
 exact .nil ⟨U,(.done au (Le.mk (.c2 (.c (.c .nil))) (.c4 (.c2 (.c .nil)))))⟩
 refine .buildSlice (([(⟨mB,a7 ((p.aA.getD gI default).a),1 + ((((p.aA.getD gI default).b:Nat):Int) % 9),0,0⟩:dW)]:List dW).map dW.row) mw nY U U U U U (aj (s:=5) (f:=dW.row) (fun _=>U)) U U U ae ?_
 refine .nil ⟨U,(.one 1 U au (.ld pN ?_))⟩
 refine .nil ⟨U,(.one 20 U au (.cL dW.row (bU ++ ([(⟨mB,a7 ((p.aA.getD gI default).a),1 + ((((p.aA.getD gI default).b:Nat):Int) % 9),0,0⟩:dW)]:List dW)) mw nY U U U U (aV bP) (aM bP) (bs bP) bP bP ae ae ?_))⟩
 refine .nil ⟨U,(.one 21 U au (.fa gP ?_))⟩
 refine .nil ⟨U,(.one 22 U au (.ao Il U U U U U U (aL U) U ?_))⟩
 exact .nil ⟨U,(.done au (Le.mk (.c2 (.c (.c .nil))) (.c4 (.c2 (.c .nil)))))⟩
 refine .region (.mv ?_)
 refine .vl (Y.qb U U om) (.an ?_)
 refine .nil (⟨gI + 1,bU ++ ([(⟨mB,a7 ((p.aA.getD gI default).a),1 + ((((p.aA.getD gI default).b:Nat):Int) % 9),0,0⟩:dW)]:List dW),⟨om,tF hm (At om),by rw [List.length_append,MV]; rfl⟩,om,Le.mk (.c2 (.c (.cons (ak U bj) .nil))) (.c (.cons (ax U ep) (.c4 (.c .nil))))⟩)
 refine .exit (.seq (.sr (.an (.nil (.block ?_)))))
 refine .fH (fun (ee:Nat) (bq:List b8)=>⟨[(1,.fp (nt.row p) 0),(2,.ptr 102 0 0 0),(3,.ptr 103 0 0 0),(6,vi ee)],[(102,.cells [.v (.string ByteArray.empty),vn,vn,vn,vn,vn,vn,vn,vi 0,vi 0,vn]),(103,.cells [.v (.string nB),.aR 401 1 0 dV.length,.aR 402 6 0 eo.length,.aR 403 1 0 0,.aR 404 5 0 bU.length,.aR 405 3 0 bq.length,vn,vn,vi 0,vi 0,vn]),(401,.rows 1 (dV.map ag)),(402,.rows 6 (eo.map Cell.row)),(403,.rows 1 (([]:List Int).map ag)),(404,.rows 5 (bU.map dW.row)),(405,.rows 3 (bq.map b8.row))]⟩) (fun ee bq=>((ee:Int) <= (p.streams.length:Int)) /\ (∀ m ∈ bq,nW m.name /\ ∃ k,m.width = a7 k) /\ (bq.length = ee)) (fun ee bq=>((p.streams.length:Int) - (ee:Int)).toNat) 0 ([]:List b8) (⟨om,fun m h=>(by cases h),U⟩) (Le.mk (.c2 (.c (.cons (ak U bj) .nil))) (.c (.cons (ax U ep) (.c4 (.c .nil))))) (fun ee bq Wi=>?_)
 obtain ⟨aap,hs,MN⟩:=Wi
 refine .seq (.sr (.mv ?_))
 refine .fa wD ?_
 refine .ld yh ?_
 refine .vl (Y.qy (n:=p.streams.length) yi U fk) (.vl (Y.zd U U) (.nil (.a8 U (fun c70=>?_) (fun c70=>?_))))
 refine .skip (.seq (.block ?_))
 have Ml:=hk.streams (p.streams.getD ee default) (getD_in om)
 refine .dQ (⟨[(1,.fp (nt.row p) 0),(2,.ptr 102 0 0 0),(3,.ptr 103 0 0 0),(6,.v (.int .i64 (ee:Int)))],[(102,.cells [.v (.string ByteArray.empty),vn,vn,vn,vn,vn,vn,vn,.v (.int .i64 0),.v (.int .i64 0),vn]),(103,.cells [.v (.string nB),.aR 401 1 0 dV.length,.aR 402 6 0 eo.length,.aR 403 1 0 0,.aR 404 5 0 bU.length,.aR 405 3 0 ((bq ++ ([(⟨sB,a7 ((p.streams.getD ee default).a),decide (((((p.streams.getD ee default).b:Nat):Int) % 2) = 1)⟩:b8)]:List b8)).length),vn,vn,.v (.int .i64 0),.v (.int .i64 0),vn]),(401,.rows 1 (dV.map ag)),(402,.rows 6 (eo.map Cell.row)),(403,.rows 1 (([]:List Int).map ag)),(404,.rows 5 (bU.map dW.row)),(405,.rows 3 ((bq ++ ([(⟨sB,a7 ((p.streams.getD ee default).a),decide (((((p.streams.getD ee default).b:Nat):Int) % 2) = 1)⟩:b8)]:List b8)).map b8.row))]⟩) U ?_ ?_
 refine .blind 0 U au (aw.fieldAddr eI U U) ae (.blind 2 U au (aw.fieldAddr wD U U) ae (.load 3 U au yh U U U U U ae ?_))
 refine .blind 4 U au (aw.move U U) ae (.blind 5 U au (aw.j6 (m:=ee) yi U U bj (aq (d:=default) om)) ae ?_)
 refine .blind 6 U au (aw.l9 Ij U U (m:=0) U om U) ae (.load 7 U au sS U U U U U ae (.blind 9 U au (aw.fieldAddr wD U U) ae ?_))
 refine .load 10 U au yh U U U U U ae (.blind 11 U au (aw.move U U) ae ?_)
 refine .blind 12 U au (aw.j6 (m:=ee) yi U U bj (aq (d:=default) om)) ae ?_
 refine .blind 13 U au (aw.l9 Ij U U (m:=1) U om U) ae (.load 14 U au sS U U U U U ae ?_)
 refine .blind 15 U au (aw.Ft U U om) ae ?_
 refine .blind 16 U au (aw.eql U U) ae (.yo ?_)
 refine .two 1 8 U U au ?_ ?_
 refine .ld l6 ?_
 refine .nil ⟨U,(.one 8 U au (.bm vj (fG (k:=((p.streams.getD ee default).a))) U (.ai U U .nil) ae U ?_))⟩
 refine .nil ⟨U,(.one 17 U au (.vl (Y.qh Fj mP U U U) (.nil ⟨U,(.one 18 U au (.buildSlice (([(⟨sB,a7 ((p.streams.getD ee default).a),decide (((((p.streams.getD ee default).b:Nat):Int) % 2) = 1)⟩:b8)]:List b8).map b8.row) jz mP U U U U U (aj (s:=3) (f:=b8.row) (fun _=>U)) U U U ae ?_))⟩)))⟩
 refine .nil ⟨U,(.one 19 U au (.cL b8.row (bq ++ ([(⟨sB,a7 ((p.streams.getD ee default).a),decide (((((p.streams.getD ee default).b:Nat):Int) % 2) = 1)⟩:b8)]:List b8)) jz mP U U U U (aV bP) (aM bP) (bs bP) bP bP ae ae ?_))⟩
 refine .nil ⟨U,(.one 20 U au (.fa eI ?_))⟩
 refine .nil ⟨U,(.one 21 U au (.ao Im U U U U U U (aL U) U ?_))⟩
 exact .nil ⟨U,(.done au (Le.mk (.c2 (.c (.c .nil))) (.c4 (.c2 (.c .nil)))))⟩
 refine .bm vj (fG (k:=((p.streams.getD ee default).a))) U (.ai U U .nil) ae U ?_
 refine .nil ⟨U,(.two 1 17 U U au ?_ ?_)⟩
 refine .ld l6 ?_
 refine .nil ⟨U,(.one 17 U au (.vl (Y.qh Fj mP U U U) (.nil ⟨U,(.one 18 U au (.buildSlice (([(⟨sB,a7 ((p.streams.getD ee default).a),decide (((((p.streams.getD ee default).b:Nat):Int) % 2) = 1)⟩:b8)]:List b8).map b8.row) jz mP U U U U U (aj (s:=3) (f:=b8.row) (fun _=>U)) U U U ae ?_))⟩)))⟩
 refine .nil ⟨U,(.one 19 U au (.cL b8.row (bq ++ ([(⟨sB,a7 ((p.streams.getD ee default).a),decide (((((p.streams.getD ee default).b:Nat):Int) % 2) = 1)⟩:b8)]:List b8)) jz mP U U U U (aV bP) (aM bP) (bs bP) bP bP ae ae ?_))⟩
 refine .nil ⟨U,(.one 20 U au (.fa eI ?_))⟩
 refine .nil ⟨U,(.one 21 U au (.ao Im U U U U U U (aL U) U ?_))⟩
 exact .nil ⟨U,(.done au (Le.mk (.c2 (.c (.c .nil))) (.c4 (.c2 (.c .nil)))))⟩
 refine .vl (Y.qh Fj mP U U U) (.nil ⟨U,(.two 1 18 U U au ?_ ?_)⟩)
 refine .ld l6 ?_
 refine .nil ⟨U,(.one 18 U au (.buildSlice (([(⟨sB,a7 ((p.streams.getD ee default).a),decide (((((p.streams.getD ee default).b:Nat):Int) % 2) = 1)⟩:b8)]:List b8).map b8.row) jz mP U U U U U (aj (s:=3) (f:=b8.row) (fun _=>U)) U U U ae ?_))⟩
 refine .nil ⟨U,(.one 19 U au (.cL b8.row (bq ++ ([(⟨sB,a7 ((p.streams.getD ee default).a),decide (((((p.streams.getD ee default).b:Nat):Int) % 2) = 1)⟩:b8)]:List b8)) jz mP U U U U (aV bP) (aM bP) (bs bP) bP bP ae ae ?_))⟩
 refine .nil ⟨U,(.one 20 U au (.fa eI ?_))⟩
 refine .nil ⟨U,(.one 21 U au (.ao Im U U U U U U (aL U) U ?_))⟩
 exact .nil ⟨U,(.done au (Le.mk (.c2 (.c (.c .nil))) (.c4 (.c2 (.c .nil)))))⟩
 refine .buildSlice (([(⟨sB,a7 ((p.streams.getD ee default).a),decide (((((p.streams.getD ee default).b:Nat):Int) % 2) = 1)⟩:b8)]:List b8).map b8.row) jz mP U U U U U (aj (s:=3) (f:=b8.row) (fun _=>U)) U U U ae ?_
 refine .nil ⟨U,(.one 1 U au (.ld l6 ?_))⟩
 refine .nil ⟨U,(.one 19 U au (.cL b8.row (bq ++ ([(⟨sB,a7 ((p.streams.getD ee default).a),decide (((((p.streams.getD ee default).b:Nat):Int) % 2) = 1)⟩:b8)]:List b8)) jz mP U U U U (aV bP) (aM bP) (bs bP) bP bP ae ae ?_))⟩
 refine .nil ⟨U,(.one 20 U au (.fa eI ?_))⟩
 refine .nil ⟨U,(.one 21 U au (.ao Im U U U U U U (aL U) U ?_))⟩
 exact .nil ⟨U,(.done au (Le.mk (.c2 (.c (.c .nil))) (.c4 (.c2 (.c .nil)))))⟩
 refine .region (.mv ?_)
 refine .vl (Y.qb U U om) (.an ?_)
 refine .nil (⟨ee + 1,bq ++ ([(⟨sB,a7 ((p.streams.getD ee default).a),decide (((((p.streams.getD ee default).b:Nat):Int) % 2) = 1)⟩:b8)]:List b8),⟨om,tF hs Au,by rw [List.length_append,MN]; rfl⟩,om,Le.mk (.c2 (.c (.cons (ak U bj) .nil))) (.c (.cons (ax U ep) (.c4 (.c .nil))))⟩)
 refine .exit (.seq (.sr (.an (.nil (.block ?_)))))
 refine .fH (fun (ir:Nat) (bK:List Int)=>⟨[(1,.fp (nt.row p) 0),(2,.ptr 102 0 0 0),(3,.ptr 103 0 0 0),(7,vi ir)],[(102,.cells [.v (.string ByteArray.empty),vn,vn,vn,vn,vn,vn,vn,vi 0,vi 0,vn]),(103,.cells [.v (.string nB),.aR 401 1 0 dV.length,.aR 402 6 0 eo.length,.aR 403 1 0 bK.length,.aR 404 5 0 bU.length,.aR 405 3 0 bq.length,vn,vn,vi 0,vi 0,vn]),(401,.rows 1 (dV.map ag)),(402,.rows 6 (eo.map Cell.row)),(403,.rows 1 (bK.map ag)),(404,.rows 5 (bU.map dW.row)),(405,.rows 3 (bq.map b8.row))]⟩) (fun ir bK=>((ir:Int) <= (p.ins.length:Int)) /\ (∀ m ∈ bK,∃ k,m = a7 k) /\ (bK.length = ir)) (fun ir bK=>((p.ins.length:Int) - (ir:Int)).toNat) 0 ([]:List Int) (⟨om,fun m h=>(by cases h),U⟩) (Le.mk (.c2 (.c (.cons (ak U bj) .nil))) (.c (.cons (ax U ep) (.c4 (.c .nil))))) (fun ir bK LS=>?_)
 obtain ⟨Uj,og,zT⟩:=LS
 refine .seq (.sr (.mv ?_))
 refine .fa Ax ?_
 refine .ld De ?_
 refine .vl (Y.qy (n:=p.ins.length) Df U fk) (.vl (Y.zd U U) (.nil (.a8 U (fun ox=>?_) (fun ox=>?_))))
 refine .skip (.seq (.block ?_))
 have Ml:=hk.ins (p.ins.getD ir 0) (getD_in om)
 refine .dQ (⟨[(1,.fp (nt.row p) 0),(2,.ptr 102 0 0 0),(3,.ptr 103 0 0 0),(7,.v (.int .i64 (ir:Int)))],[(102,.cells [.v (.string ByteArray.empty),vn,vn,vn,vn,vn,vn,vn,.v (.int .i64 0),.v (.int .i64 0),vn]),(103,.cells [.v (.string nB),.aR 401 1 0 dV.length,.aR 402 6 0 eo.length,.aR 403 1 0 ((bK ++ ([a7 (p.ins.getD ir 0)]:List Int)).length),.aR 404 5 0 bU.length,.aR 405 3 0 bq.length,vn,vn,.v (.int .i64 0),.v (.int .i64 0),vn]),(401,.rows 1 (dV.map ag)),(402,.rows 6 (eo.map Cell.row)),(403,.rows 1 ((bK ++ ([a7 (p.ins.getD ir 0)]:List Int)).map ag)),(404,.rows 5 (bU.map dW.row)),(405,.rows 3 (bq.map b8.row))]⟩) U ?_ ?_
 refine .blind 0 U au (aw.fieldAddr mr U U) ae (.blind 2 U au (aw.fieldAddr Ax U U) ae (.load 3 U au De U U U U U ae ?_))
 refine .blind 4 U au (aw.move U U) ae (.blind 5 U au (aw.j6 (m:=ir) Df U U bj (aq (d:=0) om)) ae ?_)
 refine .load 6 U au sS U U U U U ae (.yo ?_)
 refine .two 1 7 U U au ?_ ?_
 refine .ld bu ?_
 refine .nil ⟨U,(.one 7 U au (.bm vj (fG (k:=(p.ins.getD ir 0))) U (.ai U U .nil) ae U ?_))⟩
 refine .nil ⟨U,(.one 8 U au (.buildSlice (([a7 (p.ins.getD ir 0)]:List Int).map ag) az cP U U U U U (aj (s:=1) (f:=ag) (fun _=>U)) U U U ae ?_))⟩
 refine .nil ⟨U,(.one 9 U au (.cL ag (bK ++ ([a7 (p.ins.getD ir 0)]:List Int)) az cP U U U U (aV bP) (aM bP) (bs bP) bP bP ae ae ?_))⟩
 refine .nil ⟨U,(.one 10 U au (.fa mr ?_))⟩
 refine .nil ⟨U,(.one 11 U au (.ao eD U U U U U U (aL U) U ?_))⟩
 exact .nil ⟨U,(.done au (Le.mk (.c2 (.c (.c .nil))) (.c4 (.c2 (.c .nil)))))⟩
 refine .bm vj (fG (k:=(p.ins.getD ir 0))) U (.ai U U .nil) ae U ?_
 refine .nil ⟨U,(.two 1 8 U U au ?_ ?_)⟩
 refine .ld bu ?_
 refine .nil ⟨U,(.one 8 U au (.buildSlice (([a7 (p.ins.getD ir 0)]:List Int).map ag) az cP U U U U U (aj (s:=1) (f:=ag) (fun _=>U)) U U U ae ?_))⟩
 refine .nil ⟨U,(.one 9 U au (.cL ag (bK ++ ([a7 (p.ins.getD ir 0)]:List Int)) az cP U U U U (aV bP) (aM bP) (bs bP) bP bP ae ae ?_))⟩
 refine .nil ⟨U,(.one 10 U au (.fa mr ?_))⟩
 refine .nil ⟨U,(.one 11 U au (.ao eD U U U U U U (aL U) U ?_))⟩
 exact .nil ⟨U,(.done au (Le.mk (.c2 (.c (.c .nil))) (.c4 (.c2 (.c .nil)))))⟩
 refine .buildSlice (([a7 (p.ins.getD ir 0)]:List Int).map ag) az cP U U U U U (aj (s:=1) (f:=ag) (fun _=>U)) U U U ae ?_
 refine .nil ⟨U,(.one 1 U au (.ld bu ?_))⟩
 refine .nil ⟨U,(.one 9 U au (.cL ag (bK ++ ([a7 (p.ins.getD ir 0)]:List Int)) az cP U U U U (aV bP) (aM bP) (bs bP) bP bP ae ae ?_))⟩
 refine .nil ⟨U,(.one 10 U au (.fa mr ?_))⟩
 refine .nil ⟨U,(.one 11 U au (.ao eD U U U U U U (aL U) U ?_))⟩
 exact .nil ⟨U,(.done au (Le.mk (.c2 (.c (.c .nil))) (.c4 (.c2 (.c .nil)))))⟩
 refine .region (.mv ?_)
 refine .vl (Y.qb U U om) (.an ?_)
 refine .nil (⟨ir + 1,bK ++ ([a7 (p.ins.getD ir 0)]:List Int),⟨om,tF og ⟨_,U⟩,by rw [List.length_append,zT]; rfl⟩,om,Le.mk (.c2 (.c (.cons (ak U bj) .nil))) (.c (.cons (ax U ep) (.c4 (.c .nil))))⟩)
 refine .exit (.seq (.seq (.sh (Sh.j7 103 403 3 U U U (aF om) (bN.map aE) ae U U U) (.sh (Sh.j7 103 404 4 U U U (aF om) (bN.map dW.bx) ae U U U) (.sh (Sh.j7 103 405 5 U U U (aF om) (bN.map b8.bx) ae U U U) (.region (.an (.nil (.block ?_)))))))))
 refine .eg (fun (jC:Nat) (a9:List Int) (bM:List Cell)=>⟨[(1,.fp (nt.row p) 0),(2,.ptr 102 0 0 0),(3,.ptr 103 0 0 0),(8,vi jC)],[(102,.cells [.v (.string ByteArray.empty),vn,vn,vn,vn,vn,vn,vn,vi 0,vi 0,vn]),(103,.cells [.v (.string nB),.aR 401 1 0 a9.length,.aR 402 6 0 bM.length,.fz 1 (bK.map ag),.fz 5 (bU.map dW.row),.fz 3 (bq.map b8.row),vn,vn,vi 0,vi 0,vn]),(401,.rows 1 (a9.map ag)),(402,.rows 6 (bM.map Cell.row))]⟩) (fun jC a9 bM=>((jC:Int) <= (p.parts.length:Int)) /\ (Gr (pn a9 bM bK bU bq)) /\ (8 <= bM.length /\ bM.length <= 8 + jC) /\ (8 <= a9.length /\ a9.length <= 8 + jC)) (fun jC a9 bM=>((p.parts.length:Int) - (jC:Int)).toNat) 0 dV eo (⟨om,by rw [QU,JS,show eM = 8 by omega]; exact YN (fun m h=>(hm m h).2) (fun m h=>(hs m h).2) og,by rw [JS,Ic]; omega,by rw [QU,rq]; omega⟩) (Le.mk (.c2 (.c (.cons (ak U bj) .nil))) (.c (.cons (ax U ep) (.c (.c .nil))))) (fun jC a9 bM Wj=>?_)
 obtain ⟨aar,nP,z5,xC⟩:=Wj
 refine .seq (.sr (.mv ?_))
 refine .fa qI ?_
 refine .ld Az ?_
 refine .vl (Y.qy (n:=p.parts.length) AA U fk) (.vl (Y.zd U U) (.nil (.a8 U (fun Bj=>?_) (fun Bj=>?_))))
 refine .skip (.kP (fun (kz:List Int) (k9:List Cell)=>⟨[(1,.fp (nt.row p) 0),(2,.ptr 102 0 0 0),(3,.ptr 103 0 0 0),(8,vi jC)],[(102,.cells [.v (.string ByteArray.empty),vn,vn,vn,vn,vn,vn,vn,vi 0,vi 0,vn]),(103,.cells [.v (.string nB),.aR 401 1 0 kz.length,.aR 402 6 0 k9.length,.fz 1 (bK.map ag),.fz 5 (bU.map dW.row),.fz 3 (bq.map b8.row),vn,vn,vi 0,vi 0,vn]),(401,.rows 1 (kz.map ag)),(402,.rows 6 (k9.map Cell.row))]⟩) (fun kz k9=>Gr (pn kz k9 bK bU bq) /\ (8 <= k9.length /\ k9.length <= 8 + (jC + 1)) /\ (8 <= kz.length /\ kz.length <= 8 + (jC + 1))) ?_ (fun kz k9 AR=>?_))
 refine .block (.seq (.gm [103] [102,103,401,402] U ?_))
 refine .fu 0 U au er U U U (aL U) U U ae (.blind 1 U au (aw.fieldAddr qI U U) ae (.load 2 U au Az U U U U U ae ?_))
 refine .blind 3 U au (aw.move U U) ae (.blind 4 U au (aw.j6 (m:=jC) AA U U bj (aq (d:=default) om)) ae ?_)
 refine .fu 5 U au Fk U U U (aL U) U U ae (.DZ U U (bJ.cells U U U bJ.nil) ?_)
 refine .two 6 10 U U au ?_ ?_
 refine .EI [401,402] Pd (vZ (n:=(⟨nB,a9,bM,bK,bU,bq,[],[],0,0,[]⟩:ab)) (p:=(p.parts.getD jC default)) (by show (a9).length <= 1048576; omega) (by show 0 < (a9).length; omega) (We _ (getD_in om)) nP.ground (by show (bK).length <= 1048576; omega)) U (.agg (.ai U U (.cI U U (bB om) (bC om) (.cI U U (bB om) (bC om) (.ai U U (.ai U U (.ai U U (.ai U U (.ai U U (.ai U U (.ai U U (.ai U U .nil))))))))))) U (.ai U U .nil)) (eJ U (br aE) (kN U (br Cell.bx))) ae ?_
 rintro _ ⟨aQ,kA,g8,rfl,_⟩
 refine ⟨U,⟨⟨trivial,trivial,trivial,(lu oK _),trivial,trivial,trivial⟩,trivial,trivial⟩,(.nil ⟨U,(.two 7 10 U U au ?_ ?_)⟩)⟩
 refine .oJ U ae ?_
 refine .nil ⟨U,(.blind 9 U au (aw.extract U U U) ae ?_)⟩
 refine .two 8 10 U U au ?_ ?_
 refine .iL U U ae ?_
 refine .nil ⟨U,(.one 10 U au (.alloc 109 e8 U U ae ?_))⟩
 refine .nil ⟨U,(.one 11 U au (.sh (Sh.py (d:=127) (y:=.agg [.v (.int .i64 aQ.kind),.v (.int .i64 aQ.op),.v (.int .i64 aQ.out),.fz 1 (aQ.args.map ag),.v (.int .u64 (aQ.num:Int)),.v (.int .i64 aQ.mem)]) U (by show X.mD (.agg [.v (.int .i64 aQ.kind),.v (.int .i64 aQ.op),.v (.int .i64 aQ.out),.dn 1 (aQ.args.map ag),.v (.int .u64 (aQ.num:Int)),.v (.int .i64 aQ.mem)]) = _; simp only [X.mD,X.jt,X.ja (bN.map aE)])) (.ao fJ U U U U U U (aL U) U ?_)))⟩
 refine .nil ⟨U,(.one 12 U au (.an (.nil ⟨U,?_⟩)))⟩
 refine .done au (.le (aW:=⟨[(1,.fp (nt.row p) 0),(2,.ptr 102 0 0 0),(3,.ptr 103 0 0 0),(8,vi jC),(9,.ptr 109 0 0 0),(10,vi kA)],[(102,.cells [.v (.string ByteArray.empty),vn,vn,vn,vn,vn,vn,vn,vi 0,vi 0,vn]),(103,.cells [.v (.string nB),.aR 401 1 0 a9.length,.aR 402 6 0 bM.length,.fz 1 (bK.map ag),.fz 5 (bU.map dW.row),.fz 3 (bq.map b8.row),vn,vn,vi 0,vi 0,vn]),(109,.cells [vi aQ.kind,vi aQ.op,vi aQ.out,.fz 1 (aQ.args.map ag),.v (.int .u64 (aQ.num:Int)),vi aQ.mem]),(401,.rows 1 (a9.map ag)),(402,.rows 6 (bM.map Cell.row))]⟩) (Le.mk (.c4 (.c (.c .nil))) (.c4 (.c .nil))) (.sr (.fa du ?_)))
 refine .ld bw ?_
 refine .vl (Y.zl U U) (.nil (.a8 U (fun qO=>?_) (fun qO=>?_)))
 refine .seq (.sr (.fa du ?_))
 refine .ld bw ?_
 refine .vl (Y.zl U U) (.nil (.a8 U (fun Bp=>?_) (fun Bp=>?_)))
 refine .sr (.fa cg ?_)
 refine .ld bu ?_
 refine .vl (Y.qy (n:=a9.length) az U U) (.fa eR ?_)
 refine .ao fW U U U U U U (aL U) U (.nil (.region (.fa cg ?_)))
 refine .ld bu ?_
 refine .mv ?_
 refine .buildSlice (([kA]:List Int).map ag) az cP U U U U U (aj (s:=1) (f:=ag) (fun _=>U)) U U U ae ?_
 refine .cL ag (a9 ++ ([kA]:List Int)) az cP U U U U (aV bP) (aM bP) (bs bP) bP bP ae ae ?_
 refine .fa cg ?_
 refine .ao eD U U U U U U (aL U) U (.nil (.region (.fa cK ?_)))
 refine .ld iz ?_
 refine .vl (Y.zc fq U U (aL U) U U) (.buildSlice (([(⟨aQ.kind,aQ.op,(a9.length:Int),aQ.args,aQ.num,aQ.mem⟩:Cell)]:List Cell).map Cell.row) dZ e8 U U U U U (aj (s:=6) (f:=Cell.row) (fun _=>U)) U U U ae ?_)
 refine .cL Cell.row (bM ++ ([(⟨aQ.kind,aQ.op,(a9.length:Int),aQ.args,aQ.num,aQ.mem⟩:Cell)]:List Cell)) dZ e8 U U U U (aV bP) (aM bP) (bs bP) bP bP ae ae ?_
 refine .fa cK ?_
 exact .ao wB U U U U U U (aL U) U (.nil (⟨a9 ++ ([kA]:List Int),bM ++ ([(⟨aQ.kind,aQ.op,(a9.length:Int),aQ.args,aQ.num,aQ.mem⟩:Cell)]:List Cell),by first | exact ⟨nP.add om (g8.resolve_left cU) cU,o4,o4⟩ | exact ⟨nP.tj om (g8.resolve_left cU) (Classical.not_not.1 cU),o4,om⟩ | exact ⟨nP,om,om⟩,Le.mk (.c2 (.c (.c .nil))) (.c (.cons (ax U ep) (.c (.c .nil))))⟩))
 refine .skip (.region (.fa cK ?_))
 refine .ld iz ?_
 refine .vl (Y.zc fq U U (aL U) U U) (.buildSlice (([aQ]:List Cell).map Cell.row) dZ e8 U U U U U (aj (s:=6) (f:=Cell.row) (fun _=>U)) U U U ae ?_)
 refine .cL Cell.row (bM ++ ([aQ]:List Cell)) dZ e8 U U U U (aV bP) (aM bP) (bs bP) bP bP ae ae ?_
 refine .fa cK ?_
 exact .ao wB U U U U U U (aL U) U (.nil (⟨a9,bM ++ ([aQ]:List Cell),by first | exact ⟨nP.add om (g8.resolve_left cU) cU,o4,o4⟩ | exact ⟨nP.tj om (g8.resolve_left cU) (Classical.not_not.1 cU),o4,om⟩ | exact ⟨nP,om,om⟩,Le.mk (.c2 (.c (.c .nil))) (.c (.cons (ax U ep) (.c (.c .nil))))⟩))
 refine .skip (⟨a9,bM,by first | exact ⟨nP.add om (g8.resolve_left cU) cU,o4,o4⟩ | exact ⟨nP.tj om (g8.resolve_left cU) (Classical.not_not.1 cU),o4,om⟩ | exact ⟨nP,om,om⟩,Le.mk (.c2 (.c (.c .nil))) (.c (.cons (ax U ep) (.c (.c .nil))))⟩)
 refine .alloc 109 e8 U U ae ?_
 refine .nil ⟨U,(.one 8 U au (.iL U U ae ?_))⟩
 refine .nil ⟨U,(.one 11 U au (.sh (Sh.py (d:=127) (y:=.agg [.v (.int .i64 aQ.kind),.v (.int .i64 aQ.op),.v (.int .i64 aQ.out),.fz 1 (aQ.args.map ag),.v (.int .u64 (aQ.num:Int)),.v (.int .i64 aQ.mem)]) U (by show X.mD (.agg [.v (.int .i64 aQ.kind),.v (.int .i64 aQ.op),.v (.int .i64 aQ.out),.dn 1 (aQ.args.map ag),.v (.int .u64 (aQ.num:Int)),.v (.int .i64 aQ.mem)]) = _; simp only [X.mD,X.jt,X.ja (bN.map aE)])) (.ao fJ U U U U U U (aL U) U ?_)))⟩
 refine .nil ⟨U,(.one 12 U au (.an (.nil ⟨U,?_⟩)))⟩
 refine .done au (.le (aW:=⟨[(1,.fp (nt.row p) 0),(2,.ptr 102 0 0 0),(3,.ptr 103 0 0 0),(8,vi jC),(9,.ptr 109 0 0 0),(10,vi kA)],[(102,.cells [.v (.string ByteArray.empty),vn,vn,vn,vn,vn,vn,vn,vi 0,vi 0,vn]),(103,.cells [.v (.string nB),.aR 401 1 0 a9.length,.aR 402 6 0 bM.length,.fz 1 (bK.map ag),.fz 5 (bU.map dW.row),.fz 3 (bq.map b8.row),vn,vn,vi 0,vi 0,vn]),(109,.cells [vi aQ.kind,vi aQ.op,vi aQ.out,.fz 1 (aQ.args.map ag),.v (.int .u64 (aQ.num:Int)),vi aQ.mem]),(401,.rows 1 (a9.map ag)),(402,.rows 6 (bM.map Cell.row))]⟩) (Le.mk (.c4 (.c (.c .nil))) (.c4 (.c .nil))) (.sr (.fa du ?_)))
 refine .ld bw ?_
 refine .vl (Y.zl U U) (.nil (.a8 U (fun qO=>?_) (fun qO=>?_)))
 refine .seq (.sr (.fa du ?_))
 refine .ld bw ?_
 refine .vl (Y.zl U U) (.nil (.a8 U (fun Bp=>?_) (fun Bp=>?_)))
 refine .sr (.fa cg ?_)
 refine .ld bu ?_
 refine .vl (Y.qy (n:=a9.length) az U U) (.fa eR ?_)
 refine .ao fW U U U U U U (aL U) U (.nil (.region (.fa cg ?_)))
 refine .ld bu ?_
 refine .mv ?_
 refine .buildSlice (([kA]:List Int).map ag) az cP U U U U U (aj (s:=1) (f:=ag) (fun _=>U)) U U U ae ?_
 refine .cL ag (a9 ++ ([kA]:List Int)) az cP U U U U (aV bP) (aM bP) (bs bP) bP bP ae ae ?_
 refine .fa cg ?_
 refine .ao eD U U U U U U (aL U) U (.nil (.region (.fa cK ?_)))
 refine .ld iz ?_
 refine .vl (Y.zc fq U U (aL U) U U) (.buildSlice (([(⟨aQ.kind,aQ.op,(a9.length:Int),aQ.args,aQ.num,aQ.mem⟩:Cell)]:List Cell).map Cell.row) dZ e8 U U U U U (aj (s:=6) (f:=Cell.row) (fun _=>U)) U U U ae ?_)
 refine .cL Cell.row (bM ++ ([(⟨aQ.kind,aQ.op,(a9.length:Int),aQ.args,aQ.num,aQ.mem⟩:Cell)]:List Cell)) dZ e8 U U U U (aV bP) (aM bP) (bs bP) bP bP ae ae ?_
 refine .fa cK ?_
 exact .ao wB U U U U U U (aL U) U (.nil (⟨a9 ++ ([kA]:List Int),bM ++ ([(⟨aQ.kind,aQ.op,(a9.length:Int),aQ.args,aQ.num,aQ.mem⟩:Cell)]:List Cell),by first | exact ⟨nP.add om (g8.resolve_left cU) cU,o4,o4⟩ | exact ⟨nP.tj om (g8.resolve_left cU) (Classical.not_not.1 cU),o4,om⟩ | exact ⟨nP,om,om⟩,Le.mk (.c2 (.c (.c .nil))) (.c (.cons (ax U ep) (.c (.c .nil))))⟩))
 refine .skip (.region (.fa cK ?_))
 refine .ld iz ?_
 refine .vl (Y.zc fq U U (aL U) U U) (.buildSlice (([aQ]:List Cell).map Cell.row) dZ e8 U U U U U (aj (s:=6) (f:=Cell.row) (fun _=>U)) U U U ae ?_)
 refine .cL Cell.row (bM ++ ([aQ]:List Cell)) dZ e8 U U U U (aV bP) (aM bP) (bs bP) bP bP ae ae ?_
 refine .fa cK ?_
 exact .ao wB U U U U U U (aL U) U (.nil (⟨a9,bM ++ ([aQ]:List Cell),by first | exact ⟨nP.add om (g8.resolve_left cU) cU,o4,o4⟩ | exact ⟨nP.tj om (g8.resolve_left cU) (Classical.not_not.1 cU),o4,om⟩ | exact ⟨nP,om,om⟩,Le.mk (.c2 (.c (.c .nil))) (.c (.cons (ax U ep) (.c (.c .nil))))⟩))
 refine .skip (⟨a9,bM,by first | exact ⟨nP.add om (g8.resolve_left cU) cU,o4,o4⟩ | exact ⟨nP.tj om (g8.resolve_left cU) (Classical.not_not.1 cU),o4,om⟩ | exact ⟨nP,om,om⟩,Le.mk (.c2 (.c (.c .nil))) (.c (.cons (ax U ep) (.c (.c .nil))))⟩)
 refine .alloc 109 e8 U U ae ?_
 refine .nil ⟨U,(.one 7 U au (.oJ U ae ?_))⟩
 refine .nil ⟨U,(.blind 9 U au (aw.extract U U U) ae (.one 8 U au (.iL U U ae ?_)))⟩
 refine .nil ⟨U,(.one 11 U au (.sh (Sh.py (d:=127) (y:=.agg [.v (.int .i64 aQ.kind),.v (.int .i64 aQ.op),.v (.int .i64 aQ.out),.fz 1 (aQ.args.map ag),.v (.int .u64 (aQ.num:Int)),.v (.int .i64 aQ.mem)]) U (by show X.mD (.agg [.v (.int .i64 aQ.kind),.v (.int .i64 aQ.op),.v (.int .i64 aQ.out),.dn 1 (aQ.args.map ag),.v (.int .u64 (aQ.num:Int)),.v (.int .i64 aQ.mem)]) = _; simp only [X.mD,X.jt,X.ja (bN.map aE)])) (.ao fJ U U U U U U (aL U) U ?_)))⟩
 refine .nil ⟨U,(.one 12 U au (.an (.nil ⟨U,?_⟩)))⟩
 refine .done au (.le (aW:=⟨[(1,.fp (nt.row p) 0),(2,.ptr 102 0 0 0),(3,.ptr 103 0 0 0),(8,vi jC),(9,.ptr 109 0 0 0),(10,vi kA)],[(102,.cells [.v (.string ByteArray.empty),vn,vn,vn,vn,vn,vn,vn,vi 0,vi 0,vn]),(103,.cells [.v (.string nB),.aR 401 1 0 a9.length,.aR 402 6 0 bM.length,.fz 1 (bK.map ag),.fz 5 (bU.map dW.row),.fz 3 (bq.map b8.row),vn,vn,vi 0,vi 0,vn]),(109,.cells [vi aQ.kind,vi aQ.op,vi aQ.out,.fz 1 (aQ.args.map ag),.v (.int .u64 (aQ.num:Int)),vi aQ.mem]),(401,.rows 1 (a9.map ag)),(402,.rows 6 (bM.map Cell.row))]⟩) (Le.mk (.c4 (.c (.c .nil))) (.c4 (.c .nil))) (.sr (.fa du ?_)))
 refine .ld bw ?_
 refine .vl (Y.zl U U) (.nil (.a8 U (fun qO=>?_) (fun qO=>?_)))
 refine .seq (.sr (.fa du ?_))
 refine .ld bw ?_
 refine .vl (Y.zl U U) (.nil (.a8 U (fun Bp=>?_) (fun Bp=>?_)))
 refine .sr (.fa cg ?_)
 refine .ld bu ?_
 refine .vl (Y.qy (n:=a9.length) az U U) (.fa eR ?_)
 refine .ao fW U U U U U U (aL U) U (.nil (.region (.fa cg ?_)))
 refine .ld bu ?_
 refine .mv ?_
 refine .buildSlice (([kA]:List Int).map ag) az cP U U U U U (aj (s:=1) (f:=ag) (fun _=>U)) U U U ae ?_
 refine .cL ag (a9 ++ ([kA]:List Int)) az cP U U U U (aV bP) (aM bP) (bs bP) bP bP ae ae ?_
 refine .fa cg ?_
 refine .ao eD U U U U U U (aL U) U (.nil (.region (.fa cK ?_)))
 refine .ld iz ?_
 refine .vl (Y.zc fq U U (aL U) U U) (.buildSlice (([(⟨aQ.kind,aQ.op,(a9.length:Int),aQ.args,aQ.num,aQ.mem⟩:Cell)]:List Cell).map Cell.row) dZ e8 U U U U U (aj (s:=6) (f:=Cell.row) (fun _=>U)) U U U ae ?_)
 refine .cL Cell.row (bM ++ ([(⟨aQ.kind,aQ.op,(a9.length:Int),aQ.args,aQ.num,aQ.mem⟩:Cell)]:List Cell)) dZ e8 U U U U (aV bP) (aM bP) (bs bP) bP bP ae ae ?_
 refine .fa cK ?_
 exact .ao wB U U U U U U (aL U) U (.nil (⟨a9 ++ ([kA]:List Int),bM ++ ([(⟨aQ.kind,aQ.op,(a9.length:Int),aQ.args,aQ.num,aQ.mem⟩:Cell)]:List Cell),by first | exact ⟨nP.add om (g8.resolve_left cU) cU,o4,o4⟩ | exact ⟨nP.tj om (g8.resolve_left cU) (Classical.not_not.1 cU),o4,om⟩ | exact ⟨nP,om,om⟩,Le.mk (.c2 (.c (.c .nil))) (.c (.cons (ax U ep) (.c (.c .nil))))⟩))
 refine .skip (.region (.fa cK ?_))
 refine .ld iz ?_
 refine .vl (Y.zc fq U U (aL U) U U) (.buildSlice (([aQ]:List Cell).map Cell.row) dZ e8 U U U U U (aj (s:=6) (f:=Cell.row) (fun _=>U)) U U U ae ?_)
 refine .cL Cell.row (bM ++ ([aQ]:List Cell)) dZ e8 U U U U (aV bP) (aM bP) (bs bP) bP bP ae ae ?_
 refine .fa cK ?_
 exact .ao wB U U U U U U (aL U) U (.nil (⟨a9,bM ++ ([aQ]:List Cell),by first | exact ⟨nP.add om (g8.resolve_left cU) cU,o4,o4⟩ | exact ⟨nP.tj om (g8.resolve_left cU) (Classical.not_not.1 cU),o4,om⟩ | exact ⟨nP,om,om⟩,Le.mk (.c2 (.c (.c .nil))) (.c (.cons (ax U ep) (.c (.c .nil))))⟩))
 refine .skip (⟨a9,bM,by first | exact ⟨nP.add om (g8.resolve_left cU) cU,o4,o4⟩ | exact ⟨nP.tj om (g8.resolve_left cU) (Classical.not_not.1 cU),o4,om⟩ | exact ⟨nP,om,om⟩,Le.mk (.c2 (.c (.c .nil))) (.c (.cons (ax U ep) (.c (.c .nil))))⟩)
 refine .alloc 109 e8 U U ae ?_
 refine .nil ⟨U,(.one 6 U au (.EI [401,402] Pd (vZ (n:=(⟨nB,a9,bM,bK,bU,bq,[],[],0,0,[]⟩:ab)) (p:=(p.parts.getD jC default)) (by show (a9).length <= 1048576; omega) (by show 0 < (a9).length; omega) (We _ (getD_in om)) nP.ground (by show (bK).length <= 1048576; omega)) U (.agg (.ai U U (.cI U U (bB om) (bC om) (.cI U U (bB om) (bC om) (.ai U U (.ai U U (.ai U U (.ai U U (.ai U U (.ai U U (.ai U U (.ai U U .nil))))))))))) U (.ai U U .nil)) (eJ U (br aE) (kN U (br Cell.bx))) ae ?_))⟩
 rintro _ ⟨aQ,kA,g8,rfl,_⟩
 refine ⟨U,⟨⟨trivial,trivial,trivial,(lu oK _),trivial,trivial,trivial⟩,trivial,trivial⟩,(.nil ⟨U,(.one 7 U au (.oJ U ae ?_))⟩)⟩
 refine .nil ⟨U,(.blind 9 U au (aw.extract U U U) ae (.one 8 U au (.iL U U ae ?_)))⟩
 refine .nil ⟨U,(.one 11 U au (.sh (Sh.py (d:=127) (y:=.agg [.v (.int .i64 aQ.kind),.v (.int .i64 aQ.op),.v (.int .i64 aQ.out),.fz 1 (aQ.args.map ag),.v (.int .u64 (aQ.num:Int)),.v (.int .i64 aQ.mem)]) U (by show X.mD (.agg [.v (.int .i64 aQ.kind),.v (.int .i64 aQ.op),.v (.int .i64 aQ.out),.dn 1 (aQ.args.map ag),.v (.int .u64 (aQ.num:Int)),.v (.int .i64 aQ.mem)]) = _; simp only [X.mD,X.jt,X.ja (bN.map aE)])) (.ao fJ U U U U U U (aL U) U ?_)))⟩
 refine .nil ⟨U,(.one 12 U au (.an (.nil ⟨U,?_⟩)))⟩
 refine .done au (.le (aW:=⟨[(1,.fp (nt.row p) 0),(2,.ptr 102 0 0 0),(3,.ptr 103 0 0 0),(8,vi jC),(9,.ptr 109 0 0 0),(10,vi kA)],[(102,.cells [.v (.string ByteArray.empty),vn,vn,vn,vn,vn,vn,vn,vi 0,vi 0,vn]),(103,.cells [.v (.string nB),.aR 401 1 0 a9.length,.aR 402 6 0 bM.length,.fz 1 (bK.map ag),.fz 5 (bU.map dW.row),.fz 3 (bq.map b8.row),vn,vn,vi 0,vi 0,vn]),(109,.cells [vi aQ.kind,vi aQ.op,vi aQ.out,.fz 1 (aQ.args.map ag),.v (.int .u64 (aQ.num:Int)),vi aQ.mem]),(401,.rows 1 (a9.map ag)),(402,.rows 6 (bM.map Cell.row))]⟩) (Le.mk (.c4 (.c (.c .nil))) (.c4 (.c .nil))) (.sr (.fa du ?_)))
 refine .ld bw ?_
 refine .vl (Y.zl U U) (.nil (.a8 U (fun qO=>?_) (fun qO=>?_)))
 refine .seq (.sr (.fa du ?_))
 refine .ld bw ?_
 refine .vl (Y.zl U U) (.nil (.a8 U (fun Bp=>?_) (fun Bp=>?_)))
 refine .sr (.fa cg ?_)
 refine .ld bu ?_
 refine .vl (Y.qy (n:=a9.length) az U U) (.fa eR ?_)
 refine .ao fW U U U U U U (aL U) U (.nil (.region (.fa cg ?_)))
 refine .ld bu ?_
 refine .mv ?_
 refine .buildSlice (([kA]:List Int).map ag) az cP U U U U U (aj (s:=1) (f:=ag) (fun _=>U)) U U U ae ?_
 refine .cL ag (a9 ++ ([kA]:List Int)) az cP U U U U (aV bP) (aM bP) (bs bP) bP bP ae ae ?_
 refine .fa cg ?_
 refine .ao eD U U U U U U (aL U) U (.nil (.region (.fa cK ?_)))
 refine .ld iz ?_
 refine .vl (Y.zc fq U U (aL U) U U) (.buildSlice (([(⟨aQ.kind,aQ.op,(a9.length:Int),aQ.args,aQ.num,aQ.mem⟩:Cell)]:List Cell).map Cell.row) dZ e8 U U U U U (aj (s:=6) (f:=Cell.row) (fun _=>U)) U U U ae ?_)
 refine .cL Cell.row (bM ++ ([(⟨aQ.kind,aQ.op,(a9.length:Int),aQ.args,aQ.num,aQ.mem⟩:Cell)]:List Cell)) dZ e8 U U U U (aV bP) (aM bP) (bs bP) bP bP ae ae ?_
 refine .fa cK ?_
 exact .ao wB U U U U U U (aL U) U (.nil (⟨a9 ++ ([kA]:List Int),bM ++ ([(⟨aQ.kind,aQ.op,(a9.length:Int),aQ.args,aQ.num,aQ.mem⟩:Cell)]:List Cell),by first | exact ⟨nP.add om (g8.resolve_left cU) cU,o4,o4⟩ | exact ⟨nP.tj om (g8.resolve_left cU) (Classical.not_not.1 cU),o4,om⟩ | exact ⟨nP,om,om⟩,Le.mk (.c2 (.c (.c .nil))) (.c (.cons (ax U ep) (.c (.c .nil))))⟩))
 refine .skip (.region (.fa cK ?_))
 refine .ld iz ?_
 refine .vl (Y.zc fq U U (aL U) U U) (.buildSlice (([aQ]:List Cell).map Cell.row) dZ e8 U U U U U (aj (s:=6) (f:=Cell.row) (fun _=>U)) U U U ae ?_)
 refine .cL Cell.row (bM ++ ([aQ]:List Cell)) dZ e8 U U U U (aV bP) (aM bP) (bs bP) bP bP ae ae ?_
 refine .fa cK ?_
 exact .ao wB U U U U U U (aL U) U (.nil (⟨a9,bM ++ ([aQ]:List Cell),by first | exact ⟨nP.add om (g8.resolve_left cU) cU,o4,o4⟩ | exact ⟨nP.tj om (g8.resolve_left cU) (Classical.not_not.1 cU),o4,om⟩ | exact ⟨nP,om,om⟩,Le.mk (.c2 (.c (.c .nil))) (.c (.cons (ax U ep) (.c (.c .nil))))⟩))
 refine .skip (⟨a9,bM,by first | exact ⟨nP.add om (g8.resolve_left cU) cU,o4,o4⟩ | exact ⟨nP.tj om (g8.resolve_left cU) (Classical.not_not.1 cU),o4,om⟩ | exact ⟨nP,om,om⟩,Le.mk (.c2 (.c (.c .nil))) (.c (.cons (ax U ep) (.c (.c .nil))))⟩)
 refine .region (.mv ?_)
 refine .vl (Y.qb U U om) (.an ?_)
 refine .nil (⟨jC + 1,kz,k9,⟨om,AR.1,AR.2.1,AR.2.2⟩,om,Le.mk (.c2 (.c (.cons (ak U bj) .nil))) (.c (.cons (ax U ep) (.c (.c .nil))))⟩)
 refine .exit (.fS (fun (cH:List Cell)=>⟨[(1,.fp (nt.row p) 0),(2,.ptr 102 0 0 0),(3,.ptr 103 0 0 0)],[(102,.cells [.v (.string ByteArray.empty),vn,vn,vn,vn,vn,vn,vn,vi 0,vi 0,vn]),(103,.cells [.v (.string nB),.aR 401 1 0 a9.length,.aR 402 6 0 cH.length,.fz 1 (bK.map ag),.fz 5 (bU.map dW.row),.fz 3 (bq.map b8.row),vn,vn,vi 0,vi 0,vn]),(401,.rows 1 (a9.map ag)),(402,.rows 6 (cH.map Cell.row))]⟩) (fun cH=>Gr (pn a9 cH bK bU bq) /\ cH.length = bM.length) ?_ (fun cH LX=>?_))
 refine .sr (.an (.nil (.block ?_)))
 refine .fH (fun (kK:Nat) (jD:List Cell)=>⟨[(1,.fp (nt.row p) 0),(2,.ptr 102 0 0 0),(3,.ptr 103 0 0 0),(11,vi kK)],[(102,.cells [.v (.string ByteArray.empty),vn,vn,vn,vn,vn,vn,vn,vi 0,vi 0,vn]),(103,.cells [.v (.string nB),.aR 401 1 0 a9.length,.aR 402 6 0 bM.length,.fz 1 (bK.map ag),.fz 5 (bU.map dW.row),.fz 3 (bq.map b8.row),vn,vn,vi 0,vi 0,vn]),(401,.rows 1 (a9.map ag)),(402,.rows 6 (jD.map Cell.row))]⟩) (fun kK jD=>(jD.length = bM.length) /\ (Gr (pn a9 jD bK bU bq)) /\ (kK <= p.parts.length) /\ (jD.length = bM.length)) (fun kK jD=>p.parts.length - kK) 0 bM (⟨om,nP,om,U⟩) (Le.mk (.c2 (.c (.cons (ak U bj) .nil))) (.c2 (.c (.c .nil)))) (fun kK jD Mx=>?_)
 obtain ⟨Ye,Sg,VV,K4⟩:=Mx
 refine .seq (.sr (.mv ?_))
 refine .fa qI ?_
 refine .ld Az ?_
 refine .vl (Y.qy (n:=p.parts.length) AA U fk) (.vl (Y.zd U U) (.mv ?_))
 refine .aG (d:=156) U (fun AY=>?_) (fun AY=>?_)
 refine .gw 156 (Y.zh U U) (.gw 156 (Y.qp cK U U) (.gw 156 (Y.zb iz U U U U) (.gw 156 (Y.qy (n:=bM.length) dZ U U) (.gw 156 (Y.zd U U) (.pk ?_)))))
 refine .nil (.a8 U (fun Wl=>?_) (fun Wl=>?_))
 refine .skip (.seq (.block (.region (.fa qI ?_))))
 refine .ld Az ?_
 refine .mv ?_
 refine .vl (Y.qt (m:=kK) AA U U bj (aq (d:=default) om)) (.vl (Y.zc Fk U U (aL U) U U) (.mv ?_))
 refine .bI [103,401,402] [] Te (DP (nm:=nB) (ws:=a9) (cs:=jD) (ins:=bK) (aA:=bU) (streams:=bq) (f0:=0) (d0:=0) (p:=(p.parts.getD kK default)) (i:=kK) (cl:=bM.length) om om om (We _ (getD_in om)) om (Sg.KX om)) U (.named U U (.ai U U (.ai U U .nil))) ⟨U,U,U,trivial⟩ U ae (fun _ h=>by cases h) (fun _ h=>by cases h) ae ae ?_
 rintro r aJ ⟨rfl,rfl⟩ _
 refine ⟨⟨rfl,(by intro ob aY; simp only [List.mem_cons,List.not_mem_nil,or_false] at aY; rcases aY with rfl | rfl | rfl <;> rfl),.inl rfl⟩,(.nil (.region (.mv ?_)))⟩
 refine .vl (Y.qb U U om) (.an ?_)
 refine .nil (⟨kK + 1,sQ a9 jD (p.parts.getD kK default) kK,⟨bP,Sg.late om,om,(vE _ _).trans K4⟩,om,Le.mk (.c2 (.c (.cons (ak U bj) .nil))) (.c2 (.c (.c .nil)))⟩)
 refine .exit (⟨jD,⟨Sg,K4⟩,Le.mk (.c2 (.c .nil)) (.c (.cons (ax U ep) (.c (.c .nil))))⟩)
 refine .gz 156 (.gz 156 (.gz 156 (.gz 156 (.gz 156 (.pk ?_)))))
 exact .nil (.dA U (.exit (⟨jD,⟨Sg,K4⟩,Le.mk (.c2 (.c .nil)) (.c (.cons (ax U ep) (.c (.c .nil))))⟩)))
 obtain ⟨MA,UQ⟩:=LX
 refine .seq (.seq (.sh (Sh.eW 103 406 1 6 U U U U ae) (.sh (Sh.eW 103 407 1 7 U U U U ae) (.sh (Sh.eW 103 410 1 10 U U U U ae) (.region (.an (.nil (.block ?_))))))))
 refine .eg (fun (cp:Nat) (cQ:List Int) (cR:List Int)=>⟨[(1,.fp (nt.row p) 0),(2,.ptr 102 0 0 0),(3,.ptr 103 0 0 0),(12,vi cp)],[(102,.cells [.v (.string ByteArray.empty),vn,vn,vn,vn,vn,vn,vn,vi 0,vi 0,vn]),(103,.cells [.v (.string nB),.aR 401 1 0 a9.length,.aR 402 6 0 cH.length,.fz 1 (bK.map ag),.fz 5 (bU.map dW.row),.fz 3 (bq.map b8.row),.aR 406 1 0 cQ.length,.aR 407 1 0 cR.length,vi 0,vi 0,.aR 410 1 0 0]),(401,.rows 1 (a9.map ag)),(402,.rows 6 (cH.map Cell.row)),(406,.rows 1 (cQ.map ag)),(407,.rows 1 (cR.map ag)),(410,.rows 1 (([]:List Int).map ag))]⟩) (fun cp cQ cR=>((cp:Int) <= (bq.length:Int)) /\ (cQ.length = cp) /\ (cR.length = cp) /\ (∀ j,j < cp -> vF a9 bq cQ cR j)) (fun cp cQ cR=>((bq.length:Int) - (cp:Int)).toNat) 0 ([]:List Int) ([]:List Int) (⟨om,U,U,fun j hj=>by omega⟩) (Le.mk (.c2 (.c (.cons (ak U bj) .nil))) (.c (.cons (ax U ep) (.c4 (.c .nil))))) (fun cp cQ cR Wm=>?_)
 obtain ⟨aas,tk,Eb,he⟩:=Wm
 refine .seq (.sr (.mv ?_))
 refine .fa eI ?_
 refine .ld l6 ?_
 refine .vl (Y.qy (n:=bq.length) jz U fk) (.vl (Y.zd U U) (.nil (.a8 U (fun Wo=>?_) (fun Wo=>?_))))
 refine .skip ?_
 refine .fS (fun (ni:List Int)=>⟨[(1,.fp (nt.row p) 0),(2,.ptr 102 0 0 0),(3,.ptr 103 0 0 0),(12,vi cp)],[(102,.cells [.v (.string ByteArray.empty),vn,vn,vn,vn,vn,vn,vn,vi 0,vi 0,vn]),(103,.cells [.v (.string nB),.aR 401 1 0 a9.length,.aR 402 6 0 cH.length,.fz 1 (bK.map ag),.fz 5 (bU.map dW.row),.fz 3 (bq.map b8.row),.aR 406 1 0 ((cQ ++ ([aB a9 1 ((3 * cp) + 1)]:List Int)).length),.aR 407 1 0 ((cR ++ ([-1]:List Int)).length),vi 0,vi 0,.aR 410 1 0 0]),(401,.rows 1 (a9.map ag)),(402,.rows 6 (cH.map Cell.row)),(406,.rows 1 ((cQ ++ ([aB a9 1 ((3 * cp) + 1)]:List Int)).map ag)),(407,.rows 1 (ni.map ag)),(410,.rows 1 (([]:List Int).map ag))]⟩) (fun ni=>(ni.length = (cR ++ ([-1]:List Int)).length) /\ (BU a9 bq cp cR ni)) ?_ (fun ni QV=>?_)
 refine .block (.seq ?_)
 refine .dQ (⟨[(1,.fp (nt.row p) 0),(2,.ptr 102 0 0 0),(3,.ptr 103 0 0 0),(12,.v (.int .i64 (cp:Int)))],[(102,.cells [.v (.string ByteArray.empty),vn,vn,vn,vn,vn,vn,vn,.v (.int .i64 0),.v (.int .i64 0),vn]),(103,.cells [.v (.string nB),.aR 401 1 0 a9.length,.aR 402 6 0 cH.length,.fz 1 (bK.map ag),.fz 5 (bU.map dW.row),.fz 3 (bq.map b8.row),.aR 406 1 0 ((cQ ++ ([aB a9 1 ((3 * cp) + 1)]:List Int)).length),.aR 407 1 0 cR.length,.v (.int .i64 0),.v (.int .i64 0),.aR 410 1 0 0]),(401,.rows 1 (a9.map ag)),(402,.rows 6 (cH.map Cell.row)),(406,.rows 1 ((cQ ++ ([aB a9 1 ((3 * cp) + 1)]:List Int)).map ag)),(407,.rows 1 (cR.map ag)),(410,.rows 1 (([]:List Int).map ag))]⟩) U ?_ ?_
 refine .blind 0 U au (aw.fieldAddr nE U U) ae (.blind 3 U au (aw.move U U) ae ?_)
 refine .blind 4 U au (aw.Tn U U om) ae (.blind 5 U au (aw.It U U om) ae (.blind 6 U au (aw.vI sx w9 U (by first | rfl | exact IntWalk.u8_in _ om)) ae (.yo ?_)))
 refine .two 1 2 U U au ?_ ?_
 refine .ld bu ?_
 refine .nil ⟨U,(.one 2 U au (.vl (Y.zc er U U (aL U) U U) (.nil ⟨U,(.one 7 U au (.jL [401,402,406,407,410] jc (jY (n:=(⟨nB,a9,cH,bK,bU,bq,cQ,cR,0,0,([]:List Int)⟩:ab)) (w:=1) (k:=((3 * cp) + 1)) (by show (a9).length <= 1048576; omega) om) U (.agg (.ai U U (.cI U U (bB bP) (bC bP) (.cI U U (bB bP) (bC bP) (.ai U U (.ai U U (.ai U U (.cI U U (bB bP) (bC bP) (.cI U U (bB bP) (bC bP) (.ai U U (.ai U U (.cI U U (bB bP) (bC bP) .nil))))))))))) U (.ai U U (.ai U U .nil))) (eJ U (br aE) (eJ U (br Cell.bx) (eJ U (br aE) (eJ U (br aE) (kN U (br aE)))))) ae U trivial ?_))⟩)))⟩
 refine .nil ⟨U,(.one 8 U au (.buildSlice (([aB a9 1 ((3 * cp) + 1)]:List Int).map ag) az cP U U U U U (aj (s:=1) (f:=ag) (fun _=>U)) U U U ae ?_))⟩
 refine .nil ⟨U,(.one 9 U au (.cL ag (cQ ++ ([aB a9 1 ((3 * cp) + 1)]:List Int)) az cP U U U U (aV bP) (aM bP) (bs bP) bP bP ae ae ?_))⟩
 refine .nil ⟨U,(.one 10 U au (.fa nE ?_))⟩
 refine .nil ⟨U,(.one 11 U au (.ao eD U U U U U U (aL U) U ?_))⟩
 exact .nil ⟨U,(.done au (Le.mk (.c2 (.c (.c .nil))) (.c4 (.c2 (.c .nil)))))⟩
 refine .vl (Y.zc er U U (aL U) U U) (.nil ⟨U,(.two 1 7 U U au ?_ ?_)⟩)
 refine .ld bu ?_
 refine .nil ⟨U,(.one 7 U au (.jL [401,402,406,407,410] jc (jY (n:=(⟨nB,a9,cH,bK,bU,bq,cQ,cR,0,0,([]:List Int)⟩:ab)) (w:=1) (k:=((3 * cp) + 1)) (by show (a9).length <= 1048576; omega) om) U (.agg (.ai U U (.cI U U (bB bP) (bC bP) (.cI U U (bB bP) (bC bP) (.ai U U (.ai U U (.ai U U (.cI U U (bB bP) (bC bP) (.cI U U (bB bP) (bC bP) (.ai U U (.ai U U (.cI U U (bB bP) (bC bP) .nil))))))))))) U (.ai U U (.ai U U .nil))) (eJ U (br aE) (eJ U (br Cell.bx) (eJ U (br aE) (eJ U (br aE) (kN U (br aE)))))) ae U trivial ?_))⟩
 refine .nil ⟨U,(.one 8 U au (.buildSlice (([aB a9 1 ((3 * cp) + 1)]:List Int).map ag) az cP U U U U U (aj (s:=1) (f:=ag) (fun _=>U)) U U U ae ?_))⟩
 refine .nil ⟨U,(.one 9 U au (.cL ag (cQ ++ ([aB a9 1 ((3 * cp) + 1)]:List Int)) az cP U U U U (aV bP) (aM bP) (bs bP) bP bP ae ae ?_))⟩
 refine .nil ⟨U,(.one 10 U au (.fa nE ?_))⟩
 refine .nil ⟨U,(.one 11 U au (.ao eD U U U U U U (aL U) U ?_))⟩
 exact .nil ⟨U,(.done au (Le.mk (.c2 (.c (.c .nil))) (.c4 (.c2 (.c .nil)))))⟩
 refine .jL [401,402,406,407,410] jc (jY (n:=(⟨nB,a9,cH,bK,bU,bq,cQ,cR,0,0,([]:List Int)⟩:ab)) (w:=1) (k:=((3 * cp) + 1)) (by show (a9).length <= 1048576; omega) om) U (.agg (.ai U U (.cI U U (bB bP) (bC bP) (.cI U U (bB bP) (bC bP) (.ai U U (.ai U U (.ai U U (.cI U U (bB bP) (bC bP) (.cI U U (bB bP) (bC bP) (.ai U U (.ai U U (.cI U U (bB bP) (bC bP) .nil))))))))))) U (.ai U U (.ai U U .nil))) (eJ U (br aE) (eJ U (br Cell.bx) (eJ U (br aE) (eJ U (br aE) (kN U (br aE)))))) ae U trivial ?_
 refine .nil ⟨U,(.two 1 8 U U au ?_ ?_)⟩
 refine .ld bu ?_
 refine .nil ⟨U,(.one 8 U au (.buildSlice (([aB a9 1 ((3 * cp) + 1)]:List Int).map ag) az cP U U U U U (aj (s:=1) (f:=ag) (fun _=>U)) U U U ae ?_))⟩
 refine .nil ⟨U,(.one 9 U au (.cL ag (cQ ++ ([aB a9 1 ((3 * cp) + 1)]:List Int)) az cP U U U U (aV bP) (aM bP) (bs bP) bP bP ae ae ?_))⟩
 refine .nil ⟨U,(.one 10 U au (.fa nE ?_))⟩
 refine .nil ⟨U,(.one 11 U au (.ao eD U U U U U U (aL U) U ?_))⟩
 exact .nil ⟨U,(.done au (Le.mk (.c2 (.c (.c .nil))) (.c4 (.c2 (.c .nil)))))⟩
 refine .buildSlice (([aB a9 1 ((3 * cp) + 1)]:List Int).map ag) az cP U U U U U (aj (s:=1) (f:=ag) (fun _=>U)) U U U ae ?_
 refine .nil ⟨U,(.one 1 U au (.ld bu ?_))⟩
 refine .nil ⟨U,(.one 9 U au (.cL ag (cQ ++ ([aB a9 1 ((3 * cp) + 1)]:List Int)) az cP U U U U (aV bP) (aM bP) (bs bP) bP bP ae ae ?_))⟩
 refine .nil ⟨U,(.one 10 U au (.fa nE ?_))⟩
 refine .nil ⟨U,(.one 11 U au (.ao eD U U U U U U (aL U) U ?_))⟩
 exact .nil ⟨U,(.done au (Le.mk (.c2 (.c (.c .nil))) (.c4 (.c2 (.c .nil)))))⟩
 refine .le (aW:=⟨[(1,.fp (nt.row p) 0),(2,.ptr 102 0 0 0),(3,.ptr 103 0 0 0),(12,vi cp)],[(102,.cells [.v (.string ByteArray.empty),vn,vn,vn,vn,vn,vn,vn,vi 0,vi 0,vn]),(103,.cells [.v (.string nB),.aR 401 1 0 a9.length,.aR 402 6 0 cH.length,.fz 1 (bK.map ag),.fz 5 (bU.map dW.row),.fz 3 (bq.map b8.row),.aR 406 1 0 ((cQ ++ ([aB a9 1 ((3 * cp) + 1)]:List Int)).length),.aR 407 1 0 cR.length,vi 0,vi 0,.aR 410 1 0 0]),(401,.rows 1 (a9.map ag)),(402,.rows 6 (cH.map Cell.row)),(406,.rows 1 ((cQ ++ ([aB a9 1 ((3 * cp) + 1)]:List Int)).map ag)),(407,.rows 1 (cR.map ag)),(410,.rows 1 (([]:List Int).map ag))]⟩) (Le.mk (.c2 (.c (.c .nil))) (.c4 (.c2 (.c .nil)))) (.sr ?_)
 refine .fa nG ?_
 refine .ld bu ?_
 refine .buildSlice (([-1]:List Int).map ag) az cP U U U U U (aj (s:=1) (f:=ag) (fun _=>U)) U U U ae ?_
 refine .cL ag (cR ++ ([-1]:List Int)) az cP U U U U (aV bP) (aM bP) (bs bP) bP bP ae ae ?_
 refine .fa nG ?_
 refine .ao eD U U U U U U (aL U) U (.nil ?_)
 refine .le (aW:=⟨[(1,.fp (nt.row p) 0),(2,.ptr 102 0 0 0),(3,.ptr 103 0 0 0),(12,vi cp)],[(102,.cells [.v (.string ByteArray.empty),vn,vn,vn,vn,vn,vn,vn,vi 0,vi 0,vn]),(103,.cells [.v (.string nB),.aR 401 1 0 a9.length,.aR 402 6 0 cH.length,.fz 1 (bK.map ag),.fz 5 (bU.map dW.row),.fz 3 (bq.map b8.row),.aR 406 1 0 ((cQ ++ ([aB a9 1 ((3 * cp) + 1)]:List Int)).length),.aR 407 1 0 ((cR ++ ([-1]:List Int)).length),vi 0,vi 0,.aR 410 1 0 0]),(401,.rows 1 (a9.map ag)),(402,.rows 6 (cH.map Cell.row)),(406,.rows 1 ((cQ ++ ([aB a9 1 ((3 * cp) + 1)]:List Int)).map ag)),(407,.rows 1 ((cR ++ ([-1]:List Int)).map ag)),(410,.rows 1 (([]:List Int).map ag))]⟩) (Le.mk (.c2 (.c (.c .nil))) (.c4 (.c2 (.c .nil)))) (.sr ?_)
 refine .fa eI ?_
 refine .ld l6 ?_
 refine .mv ?_
 refine .vl (Y.qt (m:=cp) jz U U bj (aq (d:=default) om)) (.fa kf ?_)
 refine .ld Dd ?_
 refine .nil (.cond U (fun Wq=>?_) (fun Wq=>?_))
 refine .gm [103] [102,103,401,402,406,407,410] U (.blind 0 U au (aw.fieldAddr nG U U) ae (.load 1 U au bu U U U U U ae ?_))
 refine .blind 2 U au (aw.move U U) ae (.fu 3 U au er U U U (aL U) U U ae (.blind 4 U au (aw.fieldAddr eI U U) ae ?_))
 refine .load 5 U au l6 U U U U U ae (.blind 6 U au (aw.move U U) ae ?_)
 refine .blind 7 U au (aw.j6 (m:=cp) jz U U bj (aq (d:=default) om)) ae ?_
 refine .blind 8 U au (aw.fieldAddr r3 U U) ae (.load 9 U au bw U U U U U ae (.DZ U U (bJ.cells U U U bJ.nil) ?_))
 refine .one 10 U au (.jL [401,402,406,407,410] jc (jY (n:=(⟨nB,a9,cH,bK,bU,bq,cQ ++ ([aB a9 1 ((3 * cp) + 1)]:List Int),cR ++ ([-1]:List Int),0,0,([]:List Int)⟩:ab)) (w:=((bq.getD cp default).width)) (k:=255) (by show (a9).length <= 1048576; omega) om) U (.agg (.ai U U (.cI U U (bB bP) (bC bP) (.cI U U (bB bP) (bC bP) (.ai U U (.ai U U (.ai U U (.cI U U (bB bP) (bC bP) (.cI U U (bB bP) (bC bP) (.ai U U (.ai U U (.cI U U (bB bP) (bC bP) .nil))))))))))) U (.ai U U (.ai U U .nil))) (eJ U (br aE) (eJ U (br Cell.bx) (eJ U (br aE) (eJ U (br aE) (kN U (br aE)))))) ae U trivial ?_)
 refine .nil ⟨U,(.one 11 U au (.vl (Y.qu (m:=cp) az U U bj bP) (.nil ⟨U,(.one 12 U au (.eH (((cR ++ ([-1]:List Int)).set cp (aB a9 ((bq.getD cp default).width) 255)).map ag) fW U U U U U U U (aI (d:=0) bP) (aL U) (cY U) ?_))⟩)))⟩
 refine .nil ⟨U,(.done au (⟨(cR ++ ([-1]:List Int)).set cp (aB a9 ((bq.getD cp default).width) 255),⟨bP,by first | exact yd Eb (dk (MA.ground.str (by show cp < bq.length; omega)).1 _) cU | exact ye Eb (by simpa using cU)⟩,Le.mk (.c2 (.c (.c .nil))) (.c4 (.c2 (.c .nil)))⟩))⟩
 refine .skip (⟨cR ++ ([-1]:List Int),⟨om,by first | exact yd Eb (dk (MA.ground.str (by show cp < bq.length; omega)).1 _) cU | exact ye Eb (by simpa using cU)⟩,Le.mk (.c2 (.c (.c .nil))) (.c4 (.c2 (.c .nil)))⟩)
 obtain ⟨Nq,QW⟩:=QV
 refine .region (.mv ?_)
 refine .vl (Y.qb U U om) (.an ?_)
 refine .nil (⟨cp + 1,cQ ++ ([aB a9 1 ((3 * cp) + 1)]:List Int),ni,⟨om,by rw [List.length_append,tk]; rfl,QW.1,Da tk he (dk MA.ground.one _) QW⟩,om,Le.mk (.c2 (.c (.cons (ak U bj) .nil))) (.c (.cons (ax U ep) (.c4 (.c .nil))))⟩)
 refine .exit (.seq (.sr (.an (.nil (.block ?_)))))
 refine .fH (fun (fm:Nat) (fw:List Int)=>⟨[(1,.fp (nt.row p) 0),(2,.ptr 102 0 0 0),(3,.ptr 103 0 0 0),(13,vi fm)],[(102,.cells [.v (.string ByteArray.empty),vn,vn,vn,vn,vn,vn,vn,vi 0,vi 0,vn]),(103,.cells [.v (.string nB),.aR 401 1 0 a9.length,.aR 402 6 0 cH.length,.fz 1 (bK.map ag),.fz 5 (bU.map dW.row),.fz 3 (bq.map b8.row),.aR 406 1 0 cQ.length,.aR 407 1 0 cR.length,vi 0,vi 0,.aR 410 1 0 fw.length]),(401,.rows 1 (a9.map ag)),(402,.rows 6 (cH.map Cell.row)),(406,.rows 1 (cQ.map ag)),(407,.rows 1 (cR.map ag)),(410,.rows 1 (fw.map ag))]⟩) (fun fm fw=>((fm:Int) <= (p.bF.length:Int)) /\ (∀ m ∈ fw,In m a9.length) /\ (fw.length = fm)) (fun fm fw=>((p.bF.length:Int) - (fm:Int)).toNat) 0 ([]:List Int) (⟨om,fun m h=>(by cases h),U⟩) (Le.mk (.c2 (.c (.cons (ak U bj) .nil))) (.c (.cons (ax U ep) (.c4 (.c .nil))))) (fun fm fw Wt=>?_)
 obtain ⟨aat,hr,Jv⟩:=Wt
 refine .seq (.sr (.mv ?_))
 refine .fa Ay ?_
 refine .ld De ?_
 refine .vl (Y.qy (n:=p.bF.length) Df U fk) (.vl (Y.zd U U) (.nil (.a8 U (fun Wu=>?_) (fun Wu=>?_))))
 refine .skip (.seq (.block ?_))
 have Ml:=hk.bF (p.bF.getD fm 0) (getD_in om)
 refine .dQ (⟨[(1,.fp (nt.row p) 0),(2,.ptr 102 0 0 0),(3,.ptr 103 0 0 0),(13,.v (.int .i64 (fm:Int)))],[(102,.cells [.v (.string ByteArray.empty),vn,vn,vn,vn,vn,vn,vn,.v (.int .i64 0),.v (.int .i64 0),vn]),(103,.cells [.v (.string nB),.aR 401 1 0 a9.length,.aR 402 6 0 cH.length,.fz 1 (bK.map ag),.fz 5 (bU.map dW.row),.fz 3 (bq.map b8.row),.aR 406 1 0 cQ.length,.aR 407 1 0 cR.length,.v (.int .i64 0),.v (.int .i64 0),.aR 410 1 0 ((fw ++ ([((p.bF.getD fm 0:Nat):Int) % (a9.length:Int)]:List Int)).length)]),(401,.rows 1 (a9.map ag)),(402,.rows 6 (cH.map Cell.row)),(406,.rows 1 (cQ.map ag)),(407,.rows 1 (cR.map ag)),(410,.rows 1 ((fw ++ ([((p.bF.getD fm 0:Nat):Int) % (a9.length:Int)]:List Int)).map ag))]⟩) U ?_ ?_
 refine .blind 0 U au (aw.fieldAddr nD U U) ae (.blind 2 U au (aw.fieldAddr Ay U U) ae (.load 3 U au De U U U U U ae ?_))
 refine .blind 4 U au (aw.move U U) ae (.blind 5 U au (aw.j6 (m:=fm) Df U U bj (aq (d:=0) om)) ae (.load 6 U au sS U U U U U ae (.blind 7 U au (aw.vI w9 sx U Ai) ae ?_)))
 refine .blind 8 U au (aw.fieldAddr cg U U) ae (.yo ?_)
 refine .two 1 9 U U au ?_ ?_
 refine .ld bu ?_
 refine .nil ⟨U,(.one 9 U au (.ld bu ?_))⟩
 refine .nil ⟨U,(.one 10 U au (.vl (Y.qy (n:=a9.length) az U U) (.nil ⟨U,(.one 11 U au (.vl (Y.zt U U om) (.nil ⟨U,(.one 12 U au (.buildSlice (([((p.bF.getD fm 0:Nat):Int) % (a9.length:Int)]:List Int).map ag) az cP U U U U U (aj (s:=1) (f:=ag) (fun _=>U)) U U U ae ?_))⟩)))⟩)))⟩
 refine .nil ⟨U,(.one 13 U au (.cL ag (fw ++ ([((p.bF.getD fm 0:Nat):Int) % (a9.length:Int)]:List Int)) az cP U U U U (aV bP) (aM bP) (bs bP) bP bP ae ae ?_))⟩
 refine .nil ⟨U,(.one 14 U au (.fa nD ?_))⟩
 refine .nil ⟨U,(.one 15 U au (.ao eD U U U U U U (aL U) U ?_))⟩
 exact .nil ⟨U,(.done au (Le.mk (.c2 (.c (.c .nil))) (.c4 (.c2 (.c .nil)))))⟩
 refine .ld bu ?_
 refine .nil ⟨U,(.two 1 10 U U au ?_ ?_)⟩
 refine .ld bu ?_
 refine .nil ⟨U,(.one 10 U au (.vl (Y.qy (n:=a9.length) az U U) (.nil ⟨U,(.one 11 U au (.vl (Y.zt U U om) (.nil ⟨U,(.one 12 U au (.buildSlice (([((p.bF.getD fm 0:Nat):Int) % (a9.length:Int)]:List Int).map ag) az cP U U U U U (aj (s:=1) (f:=ag) (fun _=>U)) U U U ae ?_))⟩)))⟩)))⟩
 refine .nil ⟨U,(.one 13 U au (.cL ag (fw ++ ([((p.bF.getD fm 0:Nat):Int) % (a9.length:Int)]:List Int)) az cP U U U U (aV bP) (aM bP) (bs bP) bP bP ae ae ?_))⟩
 refine .nil ⟨U,(.one 14 U au (.fa nD ?_))⟩
 refine .nil ⟨U,(.one 15 U au (.ao eD U U U U U U (aL U) U ?_))⟩
 exact .nil ⟨U,(.done au (Le.mk (.c2 (.c (.c .nil))) (.c4 (.c2 (.c .nil)))))⟩
 refine .vl (Y.qy (n:=a9.length) az U U) (.nil ⟨U,(.blind 11 U au (aw.Ft U U om) ae ?_)⟩)
 refine .two 1 12 U U au ?_ ?_
 refine .ld bu ?_
 refine .nil ⟨U,(.one 12 U au (.buildSlice (([((p.bF.getD fm 0:Nat):Int) % (a9.length:Int)]:List Int).map ag) az cP U U U U U (aj (s:=1) (f:=ag) (fun _=>U)) U U U ae ?_))⟩
 refine .nil ⟨U,(.one 13 U au (.cL ag (fw ++ ([((p.bF.getD fm 0:Nat):Int) % (a9.length:Int)]:List Int)) az cP U U U U (aV bP) (aM bP) (bs bP) bP bP ae ae ?_))⟩
 refine .nil ⟨U,(.one 14 U au (.fa nD ?_))⟩
 refine .nil ⟨U,(.one 15 U au (.ao eD U U U U U U (aL U) U ?_))⟩
 exact .nil ⟨U,(.done au (Le.mk (.c2 (.c (.c .nil))) (.c4 (.c2 (.c .nil)))))⟩
 refine .buildSlice (([((p.bF.getD fm 0:Nat):Int) % (a9.length:Int)]:List Int).map ag) az cP U U U U U (aj (s:=1) (f:=ag) (fun _=>U)) U U U ae ?_
 refine .nil ⟨U,(.one 1 U au (.ld bu ?_))⟩
 refine .nil ⟨U,(.one 13 U au (.cL ag (fw ++ ([((p.bF.getD fm 0:Nat):Int) % (a9.length:Int)]:List Int)) az cP U U U U (aV bP) (aM bP) (bs bP) bP bP ae ae ?_))⟩
 refine .nil ⟨U,(.one 14 U au (.fa nD ?_))⟩
 refine .nil ⟨U,(.one 15 U au (.ao eD U U U U U U (aL U) U ?_))⟩
 exact .nil ⟨U,(.done au (Le.mk (.c2 (.c (.c .nil))) (.c4 (.c2 (.c .nil)))))⟩
 refine .region (.mv ?_)
 refine .vl (Y.qb U U om) (.an ?_)
 refine .nil (⟨fm + 1,fw ++ ([((p.bF.getD fm 0:Nat):Int) % (a9.length:Int)]:List Int),⟨om,tF hr (w7 (n:=pn a9 cH bK bU bq) MA.ground (by show 0 < a9.length; omega)),by rw [List.length_append,Jv]; rfl⟩,om,Le.mk (.c2 (.c (.cons (ak U bj) .nil))) (.c (.cons (ax U ep) (.c4 (.c .nil))))⟩)
 refine .exit (.sr (.vl (Y.zc er U U (aL U) U U) (.fa qI ?_)))
 refine .ld Az ?_
 refine .vl (Y.qy (n:=p.parts.length) AA U fk) (.vl (Y.ql sx w9 U (by first | rfl | exact IntWalk.u8_in _ om)) (.jL [401,402,406,407,410] jc (jY (n:=(⟨nB,a9,cH,bK,bU,bq,cQ,cR,0,0,fw⟩:ab)) (w:=1) (k:=p.parts.length) (by show (a9).length <= 1048576; omega) om) U (.agg (.ai U U (.cI U U (bB om) (bC om) (.cI U U (bB om) (bC om) (.ai U U (.ai U U (.ai U U (.cI U U (bB om) (bC om) (.cI U U (bB om) (bC om) (.ai U U (.ai U U (.cI U U (bB om) (bC om) .nil))))))))))) U (.ai U U (.ai U U .nil))) (eJ U (br aE) (eJ U (br Cell.bx) (eJ U (br aE) (eJ U (br aE) (kN U (br aE)))))) ae U trivial ?_))
 refine .fa mu ?_
 refine .ao fW U U U U U U (aL U) U (.nil (.sr (.vl (Y.zc er U U (aL U) U U) (.fa qI ?_))))
 refine .ld Az ?_
 refine .vl (Y.qy (n:=p.parts.length) AA U fk) (.vl (Y.zj U U om) (.vl (Y.qb U U om) (.vl (Y.qk sx w9 U (yp ((7 * p.parts.length) + 1))) (.jL [401,402,406,407,410] jc (jY (n:=(⟨nB,a9,cH,bK,bU,bq,cQ,cR,aB a9 1 p.parts.length,0,fw⟩:ab)) (w:=1) (k:=(((7 * p.parts.length) + 1) % 256)) (by show (a9).length <= 1048576; omega) om) U (.agg (.ai U U (.cI U U (bB om) (bC om) (.cI U U (bB om) (bC om) (.ai U U (.ai U U (.ai U U (.cI U U (bB om) (bC om) (.cI U U (bB om) (bC om) (.ai U U (.ai U U (.cI U U (bB om) (bC om) .nil))))))))))) U (.ai U U (.ai U U .nil))) (eJ U (br aE) (eJ U (br Cell.bx) (eJ U (br aE) (eJ U (br aE) (kN U (br aE)))))) ae U trivial ?_))))
 refine .fa w8 ?_
 refine .ao fW U U U U U U (aL U) U (.nil (.seq (.sh (Sh.j7 103 406 6 U U U (aF om) (bN.map aE) ae U U U) (.sh (Sh.j7 103 407 7 U U U (aF om) (bN.map aE) ae U U U) (.sh (Sh.j7 103 410 10 U U U (aF om) (bN.map aE) ae U U U) (.region (.vl (Y.zc er U U (aL U) U U) (.ao Io U U U U U U (aL U) U ?_))))))))
 exact .nil (.ret (⟨_,U,_,_,_,(Sh.P2 (d:=0) 1 401 U U U sa U ae).then (Sh.P2 (d:=0) 2 402 U U U sa U ae),U,U,(⟨nB,a9,cH,bK,bU,bq,cQ,cR,aB a9 1 p.parts.length,aB a9 1 (((7 * p.parts.length) + 1) % 256),fw⟩:ab),(MA.made om om om om om om (fun m h=>(hm m h).1) (fun m h=>(hs m h).1) om om (fun j hj=>he j om) hr (dk MA.ground.one _) (dk MA.ground.one _)),U,U⟩))
open Go Go.AW Go.Proofs
theorem GZ{p:nt}:ay Try.prog 46 [.agg (nt.row p)] [] [] (fun r o=>r = .v (.bool (decide (p.R3))) /\ o = []):=by
 refine ay.of Try.func46 U U U (n:=31) ae (aL U) (.sr (.box 101 U U U U U ae ?_))
 refine .an (.nil (.sr ?_))
 refine .fa wC ?_
 refine .ld yh ?_
 refine .vl (Y.qy (n:=p.aA.length) yi U fk) (.vl (Y.za U U) (.mv ?_))
 refine .aG (d:=7) U (fun c7=>?_) (fun c7=>?_)
 refine .gw 7 (Y.qp wD U U) (.gw 7 (Y.zb yh U U U U) (.gw 7 (Y.qy (n:=p.streams.length) yi U fk) (.gw 7 (Y.za U U) (.pk ?_))))
 refine .mv ?_
 refine .aG (d:=13) U (fun wW=>?_) (fun wW=>?_)
 refine .gw 13 (Y.qp Ax U U) (.gw 13 (Y.zb De U U U U) (.gw 13 (Y.qy (n:=p.ins.length) Df U fk) (.gw 13 (Y.za U U) (.pk ?_))))
 refine .mv ?_
 refine .aG (d:=19) U (fun tM=>?_) (fun tM=>?_)
 refine .gw 19 (Y.qp qI U U) (.gw 19 (Y.zb Az U U U U) (.gw 19 (Y.qy (n:=p.parts.length) AA U fk) (.gw 19 (Y.za U U) (.pk ?_))))
 refine .mv ?_
 refine .aG (d:=25) U (fun LR=>?_) (fun LR=>?_)
 refine .gw 25 (Y.qp Ay U U) (.gw 25 (Y.zb De U U U U) (.gw 25 (Y.qy (n:=p.bF.length) Df U fk) (.gw 25 (Y.za U U) (.pk ?_))))
 refine .an (.nil (.ret ?_))
 exact .rb rfl (dd ⟨fun h=>⟨om,om,om,om,om⟩,fun h=>by have h5:=h.bF; omega⟩)
 refine .gz 25 (.gz 25 (.gz 25 (.gz 25 (.pk ?_))))
 refine .an (.nil (.ret ?_))
 exact .rb rfl (df (fun h=>by have h1:=h.aA; have h2:=h.streams; have h3:=h.ins; have h4:=h.parts; have h5:=h.bF; omega))
 refine .gz 19 (.gz 19 (.gz 19 (.gz 19 (.pk ?_))))
 refine .mv ?_
 refine .gz 25 (.gz 25 (.gz 25 (.gz 25 (.pk ?_))))
 refine .an (.nil (.ret ?_))
 exact .rb rfl (df (fun h=>by have h1:=h.aA; have h2:=h.streams; have h3:=h.ins; have h4:=h.parts; have h5:=h.bF; omega))
 refine .gz 13 (.gz 13 (.gz 13 (.gz 13 (.pk ?_))))
 refine .mv ?_
 refine .gz 19 (.gz 19 (.gz 19 (.gz 19 (.pk ?_))))
 refine .mv ?_
 refine .gz 25 (.gz 25 (.gz 25 (.gz 25 (.pk ?_))))
 refine .an (.nil (.ret ?_))
 exact .rb rfl (df (fun h=>by have h1:=h.aA; have h2:=h.streams; have h3:=h.ins; have h4:=h.parts; have h5:=h.bF; omega))
 refine .gz 7 (.gz 7 (.gz 7 (.gz 7 (.pk ?_))))
 refine .mv ?_
 refine .gz 13 (.gz 13 (.gz 13 (.gz 13 (.pk ?_))))
 refine .mv ?_
 refine .gz 19 (.gz 19 (.gz 19 (.gz 19 (.pk ?_))))
 refine .mv ?_
 refine .gz 25 (.gz 25 (.gz 25 (.gz 25 (.pk ?_))))
 refine .an (.nil (.ret ?_))
 exact .rb rfl (df (fun h=>by have h1:=h.aA; have h2:=h.streams; have h3:=h.ins; have h4:=h.parts; have h5:=h.bF; omega))
open Go Go.AW Go.Proofs
def QX(n:ab)(at_:List Int)(y x:Int):Prop:=∃ i,cJ n i y /\ cT (n.cell i).kind /\ x ∈ (n.cell i).args /\ at_.getD y.toNat 0 = at_.getD x.toNat 0 + oa n (n.cell i)
def Wv(n:ab)(at_:List Int)(y:Int):Prop:=∃ i,cJ n i y /\ at_.getD y.toNat 0 = oa n (n.cell i) /\ (¬ cT (n.cell i).kind \/ (n.cell i).kind = 1)
structure PP(n:ab)(l at_:List Int)(w0:Int)(st:List Int)(last:Int):Prop where
 rk:0 <= last -> ∀ i,cJ n i last -> st.length + l.idxOf i + 1 <= n.cells.length
 len:st.length <= n.cells.length
 Ha:0 <= last -> In last n.aa.length
 Bq:∀ j,j < st.length -> In (st.getD j 0) n.aa.length
 link:∀ j,j + 1 < st.length -> QX n at_ (st.getD j 0) (st.getD (j + 1) 0)
 Ww:0 <= last -> 0 < st.length -> QX n at_ (st.getD (st.length - 1) 0) last
 end_:last < 0 -> 0 < st.length /\ Wv n at_ (st.getD (st.length - 1) 0)
 fst:(0 < st.length -> st.getD 0 0 = w0) /\ (st.length = 0 -> last = w0)
def rS(at_ l:List Int)(last:Int):Prop:=(l = [] /\ last = -1) \/ (last ∈ l /\ ∀ x ∈ l,at_.getD x.toNat 0 <= at_.getD last.toNat 0)
theorem rS.nil{at_ l:List Int}:rS at_ (l.take 0) (-1):=.inl ⟨by simp,rfl⟩
theorem rS.step{at_ l:List Int}{k:Nat}{last:Int}(h:rS at_ (l.take k) last)(hk:k < l.length)(h0:∀ x ∈ l,0 <= x)(hc:last < 0 \/ at_.getD (l.getD k 0).toNat 0 > at_.getD last.toNat 0):rS at_ (l.take (k + 1)) (l.getD k 0):=by
 rw [take_one (d:=(0:Int)) hk]
 refine .inr ⟨by simp,fun x hx=>?_⟩
 rcases List.mem_append.1 hx with hx | hx
 ·rcases h with ⟨h1,_⟩ | ⟨h1,h2⟩
  ·rw [h1] at hx; cases hx
  ·have:=h2 x hx
   rcases hc with hc | hc
   ·have:=h0 last (List.mem_of_mem_take h1); omega
   ·omega
 ·rw [List.mem_singleton.1 hx]; exact Int.le_refl _
theorem rS.ai{at_ l:List Int}{k:Nat}{last:Int}(h:rS at_ (l.take k) last)(hk:k < l.length)(hc:¬ (last < 0 \/ at_.getD (l.getD k 0).toNat 0 > at_.getD last.toNat 0)):rS at_ (l.take (k + 1)) last:=by
 rw [take_one (d:=(0:Int)) hk]
 rcases h with ⟨h1,h2⟩ | ⟨h1,h2⟩
 ·omega
 ·refine .inr ⟨List.mem_append.2 (.inl h1),fun x hx=>?_⟩
  rcases List.mem_append.1 hx with hx | hx
  ·exact h2 x hx
  ·rw [List.mem_singleton.1 hx]; omega
theorem rS.Ha{at_ l:List Int}{k:Nat}{last:Int}(h:rS at_ (l.take k) last)(h0:0 <= last):last ∈ l:=by
 rcases h with ⟨_,h2⟩ | ⟨h1,_⟩
 ·omega
 ·exact List.mem_of_mem_take h1
theorem nj{st:List Int}{x:Int}{j:Nat}(h:j < st.length):(st ++ [x]).getD j 0 = st.getD j 0:=by
 rw [List.getD_eq_getElem?_getD,List.getElem?_append_left h,List.getD_eq_getElem?_getD]
theorem sH{st:List Int}{x:Int}:(st ++ [x]).getD st.length 0 = x:=by
 rw [List.getD_eq_getElem?_getD,List.getElem?_append_right (Nat.le_refl _),Nat.sub_self]; rfl
section
variable {n:ab} {l at_ st:List Int} {w0 last:Int}
theorem PP.init(hf:bg n)(ho:Ord n l)(hw:In w0 n.aa.length):PP n l at_ w0 [] w0 where
 rk:=fun _ i hd=>by
  have h1:=List.idxOf_lt_length_of_mem (ho.mem hd.1)
  have h2:=ho.len
  simp only [List.length_nil]; omega
 len:=by simp
 Ha:=fun _=>hw
 Bq:=fun j h=>by simp at h
 link:=fun j h=>by simp at h
 Ww:=fun _ h=>by simp at h
 end_:=fun h=>by unfold In at hw; omega
 fst:=⟨fun h=>by simp at h,fun _=>rfl⟩
theorem PP.more(h : PP n l at_ w0 st last)(h0 : 0 ≤ last) : (∀ j, j < (st ++ [last]).length → In ((st ++ [last]).getD j 0) n.aa.length) ∧ (∀ j, j + 1 < (st ++ [last]).length → QX n at_ ((st ++ [last]).getD j 0) ((st ++ [last]).getD (j + 1) 0)) ∧
  (st ++ [last]).getD ((st ++ [last]).length - 1) 0 = last /\ (st ++ [last]).getD 0 0 = w0:=by
 have hl:(st ++ [last]).length = st.length + 1:=by simp
 refine ⟨fun j hj=>?_,fun j hj=>?_,?_,?_⟩
 ·rcases Nat.lt_or_ge j st.length with h1 | h1
  ·rw [nj h1]; exact h.Bq j h1
  ·obtain rfl:j = st.length:=by omega
   rw [sH]; exact h.Ha h0
 ·rcases Nat.lt_or_ge (j + 1) st.length with h1 | h1
  ·rw [nj h1,nj om]; exact h.link j h1
  ·have e:j + 1 = st.length:=by omega
   rw [e,sH,nj om,show j = st.length - 1 by omega]
   exact h.Ww h0 om
 ·rw [hl,Nat.add_sub_cancel,sH]
 ·rcases Nat.eq_zero_or_pos st.length with h1 | h1
  ·have:st = []:=List.eq_nil_of_length_eq_zero h1
   subst this
   exact h.fst.2 rfl
  ·rw [nj h1]; exact h.fst.1 h1
theorem PP.lt(hf:bg n)(h:PP n l at_ w0 st last)(h0:0 <= last):st.length + 1 <= n.cells.length:=by
 obtain ⟨i,hi⟩:=hf.kH (h.Ha h0)
 have:=h.rk h0 i hi
 omega
structure PD(n:ab)(at_:List Int)(w0:Int)(st:List Int):Prop where
 pos:0 < st.length
 len:st.length <= n.cells.length
 Bq:∀ j,j < st.length -> In (st.getD j 0) n.aa.length
 link:∀ j,j + 1 < st.length -> QX n at_ (st.getD j 0) (st.getD (j + 1) 0)
 root:Wv n at_ (st.getD (st.length - 1) 0)
 fst:st.getD 0 0 = w0
theorem PP.stop(hf:bg n)(ha:xx n at_){cs:List Cell}(hc:DI n cs)(h:PP n l at_ w0 st last)(h0:0 <= last)(hk:¬ cT (cs.getD last.toNat default).kind):PD n at_ w0 (st ++ [last]):=by
 obtain ⟨h1,h2,h3,h4⟩:=h.more h0
 obtain ⟨i,hi⟩:=hf.kH (h.Ha h0)
 rw [hc.at_ i last hi] at hk
 refine ⟨by simp,by simp; have:=h.lt hf h0; omega,h1,h2,?_,h4⟩
 rw [h3]
 refine ⟨i,hi,?_,.inl hk⟩
 rw [ha.eq i last hi]
 unfold lO
 rw [if_neg hk]; omega
theorem PP.done(h:PP n l at_ w0 st last)(h0:last < 0):PD n at_ w0 st :=
 ⟨(h.end_ h0).1,h.len,h.Bq,h.link,(h.end_ h0).2,h.fst.1 (h.end_ h0).1⟩
theorem PP.go(hf : bg n)(ho : Ord n l)(ha : xx n at_)(h0a : ∀ w, In w n.aa.length → 0 ≤ at_.getD w.toNat 0){cs : List Cell}(hc : DI n cs)(h : PP n l at_ w0 st last)(h0 : 0 ≤ last)(hk : cT (cs.getD last.toNat default).kind){k : Nat}{nl : Int}(Eu : k = (cs.getD last.toNat default).args.length)
  (hb:rS at_ ((cs.getD last.toNat default).args.take k) nl):PP n l at_ w0 (st ++ [last]) nl:=by
 obtain ⟨h1,h2,h3,h4⟩:=h.more h0
 obtain ⟨i,hi⟩:=hf.kH (h.Ha h0)
 rw [hc.at_ i last hi] at hk Eu hb
 rw [Eu,List.take_length] at hb
 have gG:=h.rk h0 i hi
 have hl:(st ++ [last]).length = st.length + 1:=by simp
 have tO:at_.getD last.toNat 0 = gH at_ (n.cell i).args + oa n (n.cell i):=by
  rw [ha.eq i last hi]; unfold lO; rw [if_pos hk]
 have ti:0 <= nl -> nl ∈ (n.cell i).args:=fun h5=>by
  rcases hb with ⟨_,h6⟩ | ⟨h6,_⟩
  ·omega
  ·exact h6
 exact {
  rk:=fun h5 j hj=>by
   obtain ⟨j',vy,aav⟩:=ho.lt hi.1 hk (ti h5)
   rw [hf.unique hj vy,hl]; omega
  len:=by rw [hl]; omega
  Ha:=fun h5=>hf.pR hi.1 (ti h5)
  Bq:=h1
  link:=h2
  Ww:=fun h5 _=>by
   rw [h3]
   refine ⟨i,hi,hk,ti h5,?_⟩
   rw [tO]
   rcases hb with ⟨_,h6⟩ | ⟨h6,h7⟩
   ·omega
   ·have h8:=wP (at_:=at_) h6
    have h9:=(kV (at_:=at_) (l:=(n.cell i).args) (B:=at_.getD nl.toNat 0) (h0a nl (hf.pR hi.1 h6)) h7).2
    omega
  end_:=fun h5=>by
   refine ⟨by rw [hl]; omega,?_⟩
   rw [h3]
   rcases hb with ⟨h6,_⟩ | ⟨h6,_⟩
   ·refine ⟨i,hi,?_,.inr ?_⟩
    ·rw [tO,h6]; simp [gH]
    ·have kC:=(hf.cellAt hi.1).2.1
     have hlen:(n.cell i).args.length = 0:=by rw [h6]; rfl
     unfold Shaped at kC
     unfold cT at hk
     rcases kC with hx | ⟨hx,hy,hz,_⟩ | hx | hx | hx | hx | hx | hx | hx | hx
     ·exact hx.1
     ·rw [hlen] at hz; exact absurd hz.symm hy
     all_goals omega
   ·have:=(hf.pR hi.1 h6).1; omega
  fst:=⟨fun _=>h4,fun h5=>by rw [hl] at h5; omega⟩ }
end
open Go Go.AW Go.Proofs
structure Hb(n:ab)(at_ st:List Int)(d:Int):Prop where
 pos:0 < st.length
 len:st.length <= n.cells.length
 Bq:∀ j,j < st.length -> In (st.getD j 0) n.aa.length
 link:∀ j,j + 1 < st.length -> QX n at_ (st.getD (j + 1) 0) (st.getD j 0)
 root:Wv n at_ (st.getD 0 0)
 end_:∃ a,(st.getD (st.length - 1) 0,a) ∈ lF n /\ d = at_.getD (st.getD (st.length - 1) 0).toNat 0 + a
 max:∀ e ∈ lF n,at_.getD e.1.toNat 0 + e.2 <= d
theorem nk{l:List Int}{j:Nat}(h:j < l.length):l.reverse.getD j 0 = l.getD (l.length - 1 - j) 0:=by
 rw [List.getD_eq_getElem?_getD,List.getElem?_eq_getElem (by simpa using h),List.getD_eq_getElem?_getD,List.getElem?_eq_getElem om]
 simp
section
variable {n:ab} {l at_ st:List Int} {w0 last d a:Int} {cs:List Cell}
theorem PD.rev(h:PD n at_ w0 st)(he:(w0,a) ∈ lF n)(hd:d = at_.getD w0.toNat 0 + a)(hm:∀ e ∈ lF n,at_.getD e.1.toNat 0 + e.2 <= d):Hb n at_ st.reverse d:=by
 have hp:=h.pos
 have hl:st.reverse.length = st.length:=by simp
 refine ⟨om,by rw [hl]; exact h.len,fun j hj=>?_,fun j hj=>?_,?_,⟨a,?_,?_⟩,hm⟩
 ·rw [nk om]; exact h.Bq _ om
 ·rw [nk om,nk om]
  have:=h.link (st.length - 1 - (j + 1)) om
  rw [show st.length - 1 - (j + 1) + 1 = st.length - 1 - j by omega] at this
  exact this
 ·rw [nk om,Nat.sub_zero]; exact h.root
 ·rw [hl,nk om,show st.length - 1 - (st.length - 1) = 0 by omega,h.fst]; exact he
 ·rw [hl,nk om,show st.length - 1 - (st.length - 1) = 0 by omega,h.fst]; exact hd
theorem PP.args(hf:bg n)(hc:DI n cs)(h:PP n l at_ w0 st last)(h0:0 <= last):∀ x ∈ (cs.getD last.toNat default).args,In x n.aa.length:=by
 obtain ⟨i,hi⟩:=hf.kH (h.Ha h0)
 rw [hc.at_ i last hi]
 exact fun x hx=>hf.pR hi.1 hx
theorem PP.Wx(hM:VT n)(hc:DI n cs)(h:PP n l at_ w0 st last)(h0:0 <= last):(cs.getD last.toNat default).args.length <= 200:=by
 obtain ⟨i,hi⟩:=hM.formed.kH (h.Ha h0)
 have h1:=hi.1
 rw [hc.at_ i last hi]
 exact hM.mO _ (getD_in om)
end
open Go Go.AW Go.Proofs
structure xq(x:Int)(k p:Nat):Prop where
 p:p = 2 ^ k
 lt:k = 0 \/ 2 ^ (k - 1) < x.toNat
theorem xq.init{x:Int}:xq x 0 1:=⟨rfl,.inl rfl⟩
theorem xq.step{x:Int}{k p:Nat}(h:xq x k p)(hx:(p:Int) < x):xq x (k + 1) (2 * p):=by
 have h1:=h.p
 refine ⟨by rw [Nat.pow_succ,h1]; omega,.inr ?_⟩
 rw [Nat.add_sub_cancel]; omega
theorem xq.le{x:Int}{k p:Nat}(h:xq x k p)(hx:x <= 256):k <= 8 /\ 1 <= p /\ p <= 256:=by
 have hk:k <= 8:=by
  rcases h.lt with h1 | h1
  ·omega
  ·rcases Nat.lt_or_ge k 9 with h2 | h2
   ·omega
   ·have:2 ^ 8 <= 2 ^ (k - 1):=Nat.pow_le_pow_right om om
    omega
 have h1:2 ^ k <= 2 ^ 8:=Nat.pow_le_pow_right om hk
 have h2:1 <= 2 ^ k:=Nat.one_le_two_pow
 have h3:=h.p
 refine ⟨hk,om,om⟩
theorem xq.done{x:Int}{k p:Nat}(h:xq x k p)(h0:0 <= x)(hx:¬ (p:Int) < x):k = dF x.toNat:=by
 have h1:=h.p
 refine (FG om ?_).symm
 exact h.lt
def nA:ab:=⟨ByteArray.empty,[1,1],[⟨4,0,0,[1,0],0,0⟩,⟨1,0,1,[],0,0⟩],[],[],[],[],[],1,0,[]⟩
theorem we:bg nA where
 name:=⟨fun i h=>by have h:i < 0:=h; omega,ae⟩
 dH:=by decide
 dr:=by decide
 kq:=by decide
 cG:=by decide
 dM:=rfl
 gM:=rfl
 wide:=fun j hj=>by
  have hj:j < 2:=hj
  rcases j with _ | _ | j
  ·decide
  ·decide
  ·omega
 aA:=fun j hj=>by cases hj
 strs:=fun j hj=>by cases hj
 freeze:=by decide
 done:=by decide
 bF:=fun r hr=>by cases hr
 cells:=fun j hj=>by
  have hj:j < 2:=hj
  rcases j with _ | _ | j
  ·refine ⟨fun x hx=>?_,?_,fun h=>?_,fun _=>?_⟩
   ·have hx:x ∈ ([1,0]:List Int):=hx
    simp at hx
    rcases hx with rfl | rfl <;> decide
   ·exact .inr (.inr (.inr (.inl ⟨rfl,rfl,rfl,rfl⟩)))
   ·exact absurd h ae
   ·show In 0 2; decide
  ·refine ⟨fun x hx=>?_,?_,fun h=>?_,fun _=>?_⟩
   ·cases hx
   ·exact .inl ⟨rfl,rfl,rfl,rfl⟩
   ·exact absurd h ae
   ·show In 1 2; decide
  ·omega
 jP:=fun w hw=>by
  have hw:w < 2:=hw
  rcases w with _ | _ | w
  ·decide
  ·decide
  ·omega
theorem MB:Fit nA where
 freeze:=rfl
 done:=rfl
 strs:=fun j hj=>by cases hj
 cells:=fun j hj=>by
  have hj:j < 2:=hj
  rcases j with _ | _ | j
  ·exact .inr (.inr (.inr (.inl ⟨rfl,rfl,rfl,rfl⟩)))
  ·exact .inl ⟨rfl,rfl⟩
  ·omega
theorem Br:Acyclic nA:=⟨fun _=>0,fun i j hi _ h=>by
 exfalso
 obtain ⟨⟨h1,h2⟩,h3⟩:=hi
 have h2:i < 2:=h2
 have:i = 0 \/ i = 1:=by omega
 rcases this with rfl | rfl
 ·exact absurd h3 ae
 ·cases h⟩
theorem QY:VT nA where
 formed:=we
 fit:=MB
 acyclic:=Br
 small := {
  name:=by decide
  aa:=by decide
  cells:=by decide
  args:=fun c hc=>by
   have hc:c ∈ ([⟨4,0,0,[1,0],0,0⟩,⟨1,0,1,[],0,0⟩]:List Cell):=hc
   simp at hc
   rcases hc with rfl | rfl <;> simp
  DW:=by decide
  Ak:=fun c hc=>by
   have hc:c ∈ ([⟨4,0,0,[1,0],0,0⟩,⟨1,0,1,[],0,0⟩]:List Cell):=hc
   simp at hc
   rcases hc with rfl | rfl <;> simp
  mK:=fun m hm=>by cases hm
  mL:=fun m hm=>by cases hm
  ins:=by decide
  aA:=by decide
  streams:=by decide
  ba:=by decide
  data:=by decide
  bF:=by decide }
 dH:=by decide
 dr:=by decide
 mO:=fun c hc=>by
  have hc:c ∈ ([⟨4,0,0,[1,0],0,0⟩,⟨1,0,1,[],0,0⟩]:List Cell):=hc
  simp at hc
  rcases hc with rfl | rfl <;> simp
 nX:=by decide
 cG:=by decide
 yb:=by decide
theorem Hc:lF nA = [(1,100),(0,60),(1,100),(0,0)]:=by decide
theorem Jr{at_ st:List Int}{d:Int}(ha:xx nA at_)(h:Hb nA at_ st d):d = 100 /\ st.length = 1:=by
 have d0:cJ nA 0 0:=⟨⟨ae,ae⟩,ae,rfl⟩
 have d1:cJ nA 1 1:=⟨⟨ae,ae⟩,ae,rfl⟩
 have a0:at_.getD 0 0 = 30:=(ha.eq 0 0 d0).trans (by
  have:lO nA at_ (nA.cell 0) = 0 + 30:=rfl
  rw [this]; rfl)
 have a1:at_.getD 1 0 = 0:=(ha.eq 1 1 d1).trans (by
  have:lO nA at_ (nA.cell 1) = gH at_ [] + 0:=rfl
  rw [this]; rfl)
 have hm:=h.max (1,100) (by rw [Hc]; simp)
 obtain ⟨a,he,hd⟩:=h.end_
 rw [Hc] at he
 have hm:at_.getD 1 0 + 100 <= d:=hm
 simp only [List.mem_cons,List.not_mem_nil,or_false,Prod.mk.injEq] at he
 have key:st.getD (st.length - 1) 0 = 1 /\ d = 100:=by
  rcases he with ⟨h1,h2⟩ | ⟨h1,h2⟩ | ⟨h1,h2⟩ | ⟨h1,h2⟩ <;> rw [h1] at hd
  ·have hd:d = at_.getD 1 0 + a:=hd
   exact ⟨h1,om⟩
  ·have hd:d = at_.getD 0 0 + a:=hd
   omega
  ·have hd:d = at_.getD 1 0 + a:=hd
   exact ⟨h1,om⟩
  ·have hd:d = at_.getD 0 0 + a:=hd
   omega
 refine ⟨key.2,Classical.byContradiction fun fb=>?_⟩
 have hp:=h.pos
 obtain ⟨i,hi,_,hx,_⟩:=h.link (st.length - 2) om
 rw [show st.length - 2 + 1 = st.length - 1 by omega,key.1] at hi
 rw [we.unique hi d1] at hx
 cases hx
open Go Go.AW Go.Proofs
theorem Bs{n:ab}{c:Cell}(hw:∀ w ∈ n.aa,dO w)(kC:jO n c)(ha:c.args.length <= 200)(xC:n.aa.length <= 1000):ay Try.prog 181 [.agg (ab.row n),.agg (Cell.row c)] [] [] (fun r o=>r = (vi (oa n c)) /\ o = []):=by
 refine ay.of Try.func181 U U U (n:=49) ae (aL U) (.sr (.box 102 U U U U U ae ?_))
 refine .box 103 U U U U U ae ?_
 refine .an ?_
 refine .nil (.seq (.seq (.sh (Sh.dD 102 U U) (.sh (Sh.dD 103 U U) (.region (.fa du ?_))))))
 refine .ld bw ?_
 refine .nil (.block (.sr (.vl (Y.qm U U) (.an (.nil ?_)))))
 refine .a8 U (fun L9=>?_) (fun L9=>?_)
 refine .sr (.an (.nil (.ret ?_)))
 exact .ri rfl (by unfold oa; rw [if_pos cU])
 refine .sr (.vl (Y.qm U U) (.an (.nil ?_)))
 refine .a8 U (fun Gl=>?_) (fun Gl=>?_)
 refine .seq ?_
 have h5:=Me kC cU; have h5i:=h5.1; unfold In at h5i; have h5w:=GK hw h5.1; have Yf:=kC.1 (c.args.getD 0 0) (bQ om); have h5v:=GK hw Yf; have h5j:=Yf; unfold In at h5j
 refine .region (.fa cg ?_)
 refine .ld bu ?_
 refine .fa eR ?_
 refine .ld bw ?_
 refine .vl (Y.qt (m:=(c.out).toNat) az U U om (aq (d:=0) om)) (.ld bw ?_)
 refine .an (.nil ?_)
 refine .fS (fun (uY:Int)=>⟨[(3,.fp (Cell.row c) 0),(5,vi uY)],[]⟩) (fun uY=>uY = (if km c.op then n.av c 0 else n.wd c.out)) ?_ (fun uY Jc=>?_)
 refine .sr (.fa eQ ?_)
 refine .ld bw ?_
 refine .bm JI (oV (w:=c.op)) U (.ai U U .nil) ae U (.nil (.a8 U (fun mT=>?_) (fun mT=>?_)))
 exact .kb U au (.val (Y.qp cg U U) ae (.val (Y.zb bu U U U U) ae (.val (Y.qp cd U U) ae (.val (Y.zb bu U U U U) ae (.val (Y.qt (m:=0) az U U bj (aq (d:=0) om)) ae (.val (Y.zb bw U U U U) ae (.val (Y.qt (m:=(c.args.getD 0 0).toNat) az U U om (aq (d:=0) om)) ae (.val (Y.zb bw U U U U) ae (.val (Y.qf U U) ae (.nil ⟨n.aa.getD ((c.args.getD 0 0).toNat) 0,by rw [if_pos cU]; rfl,Le.mk (.c (.cons (ak U bj) .nil)) .nil⟩))))))))))
 refine .skip ⟨n.aa.getD ((c.out).toNat) 0,by rw [if_neg cU]; rfl,Le.mk (.c (.cons (ak U bj) .nil)) .nil⟩
 have h8:1 <= uY /\ uY <= 64:=by (rw [Jc]; split <;> assumption)
 refine .sr (.fa eQ ?_)
 refine .ld bw ?_
 refine .mv ?_
 refine .oH OU (Jp (op:=c.op) (x:=uY) h5.2.1 h8.1 h8.2) U (.ai U U (.ai U U .nil)) ae ?_
 rintro _ ⟨aay,rfl,_⟩
 refine ⟨U,(.mv ?_)⟩
 refine .vl (Y.qo U U U) (.vl (Y.qo U U U) (.alloc 106 sR U U ae ?_))
 refine .ao fV U U U U U U (aL U) U ?_
 refine .an (.nil (.sr ?_))
 refine .fa fL ?_
 refine .ld bw ?_
 refine .an (.nil (.ret ?_))
 exact .ri rfl (by unfold oa; rw [if_neg om,if_pos cU,Jc])
 refine .sr (.vl (Y.qm U U) (.an (.nil ?_)))
 refine .a8 U (fun Md=>?_) (fun Md=>?_)
 refine .seq ?_
 have Rs:=Bb (n:=((c.args.length:Int) / 2).toNat) om
 refine .region (.fa cd ?_)
 refine .ld bu ?_
 refine .vl (Y.qy (n:=c.args.length) az U fk) (.vl (Y.zq U U om) (.bm BW (me (x:=((c.args.length:Int) / 2)) (om) (om)) U (.ai U U .nil) ae U (.vl (Y.zj U U om) (.vl (Y.qb U U aH) (.an (.nil (.ret ?_)))))))
 exact .ri rfl (by unfold oa; rw [if_neg om,if_neg om,if_pos cU,show ((c.args.length:Int) / 2).toNat = c.args.length / 2 by omega])
 refine .skip (.sr (.an (.nil (.ret ?_))))
 exact .ri rfl (by unfold oa; rw [if_neg om,if_neg om,if_neg om])
open Go Go.AW Go.Proofs
theorem vt{n:ab}(hM:VT n):ay Try.prog 144 [.agg (ab.row n)] [] [] (fun r o=>∃ l at_:List Int,Ord n l /\ xx n at_ /\ r = .tup [.dn 1 (at_.map ag),vi 0] /\ o = []):=by
 refine ay.of Try.func144 U U U (n:=67) ae (aL U) ?_
 have hs:=hM.small; have hf:=hM.formed; have Cv:=hM.dH; have Hz:=hM.dr; have Hm:=hM.mO; have xu:=hM.nX; have QZ:=hM.cG; have Mu:=hf.dM; have Si:=hf.gM; have Ov:=hM.yb; have MC:=hM.fit; have MD:=hM.acyclic
 refine .sr (.box 101 U U U U U ae ?_)
 refine .an ?_
 refine .an ?_
 refine .nil (.seq (.sh (Sh.dD 101 U U) (.region (.vl (Y.zc er U U (aL U) U U) (.oH Lb (qP (n:=n) hs om) U (.ai U U .nil) ae ?_)))))
 rintro _ ⟨kg,e15,Wy,rfl,_⟩
 refine ⟨U,(.oJ U ae (.iL U U ae (.vl (Y.qo U U U) (.cj U ae (.sh (Sh.bS (d:=4) (kg.map ag) U fI (bN.map aE)) (.an ?_))))))⟩
 refine .nil (.seq (.seq ?_))
 obtain ⟨hO,hO2⟩:=Wy.ok hf MC MD; have sK:=hO.len
 refine .region (.mv ?_)
 refine .vl (Y.zl U U) (.nil (.a8 U (fun tM=>?_) (fun tM=>?_)))
 exact absurd hO2 tM
 refine .skip (.sr (.fa cg ?_))
 refine .ld bu ?_
 refine .vl (Y.qy (n:=n.aa.length) az U fk) (.makeSlice (n:=n.aa.length) az cP U U U U om om ae ?_)
 refine .cj U ae (.sh (Sh.cz (d:=6) (n:=n.aa.length) 106 ((List.replicate n.aa.length 0).map ag) U fI (aF (by simp)) ae) (.nil (.seq (.sr (.mv ?_)))))
 refine .vl (Y.qy (n:=kg.length) az U fk) (.mv ?_)
 refine .nil (.block (.fH (fun (bV:Nat) (iE:List Int)=>⟨[(1,.fp (ab.row n) 0),(6,.aR 106 1 0 n.aa.length),(25,.fz 1 (kg.map ag)),(26,vi kg.length),(27,vi bV)],[(106,.rows 1 (iE.map ag))]⟩) (fun bV iE=>(iE.length = n.aa.length) /\ ((bV:Int) <= (kg.length:Int)) /\ (kW n kg bV iE)) (fun bV iE=>((kg.length:Int) - (bV:Int)).toNat) 0 (List.replicate n.aa.length 0) (⟨pj,pj,kW.init⟩) (Le.mk (.c4 (.cons (ak U bj) .nil)) (.c .nil)) (fun bV iE LM=>?_)))
 obtain ⟨C6,Xs,hA⟩:=LM
 refine .sr (.vl (Y.zd U U) (.nil (.seq (.a8 U (fun C5=>?_) (fun C5=>?_)))))
 refine .skip (.fS (fun (np:List Int)=>⟨[(1,.fp (ab.row n) 0),(6,.aR 106 1 0 n.aa.length),(25,.fz 1 (kg.map ag)),(26,vi kg.length),(27,vi bV)],[(106,.rows 1 (np.map ag))]⟩) (fun np=>(np.length = n.aa.length) /\ (kW n kg (bV + 1) np)) ?_ (fun np GW=>?_))
 refine .block (.sr (.vl (Y.qt (m:=bV) az U U bj (aq (d:=0) om)) (.ld bw ?_)))
 refine .an (.nil (.seq ?_))
 have h8:=hO.p6 (kg.getD bV 0) (bQ om)
 refine .region (.fa cK ?_)
 refine .ld iz ?_
 refine .mv ?_
 refine .vl (Y.qt (m:=(kg.getD bV 0).toNat) dZ U U om (aq (d:=default) om)) (.vl (Y.zc fq U U (aL U) U U) (.alloc 109 e8 U U ae (.ao fJ U U U U U U (aL U) U ?_)))
 refine .nil (.seq (.seq ?_))
 have h9:=Hm (n.cells.getD (kg.getD bV 0).toNat default) (getD_in om); have h9c:=hf.cells (kg.getD bV 0).toNat om; have h9o:=FF hf (j:=(kg.getD bV 0).toNat) om
 refine .region (.fa eR ?_)
 refine .ld bw ?_
 refine .vl (Y.zd U U) (.nil (.a8 U (fun QS=>?_) (fun QS=>?_)))
 refine .exit (⟨iE,⟨om,by first | exact hA.Ki hf hO om cU Hd | exact hA.skip hO om (CB hf om cU)⟩,Le.mk (.c4 (.c .nil)) (.c .nil)⟩)
 refine .skip (.sr (.an (.nil ?_)))
 refine .fS (fun (pK:Int)=>⟨[(1,.fp (ab.row n) 0),(6,.aR 106 1 0 n.aa.length),(9,.ptr 109 0 0 0),(10,vi pK),(25,.fz 1 (kg.map ag)),(26,vi kg.length),(27,vi bV)],[(106,.rows 1 (iE.map ag)),(109,.cells [vi ((n.cells.getD ((kg.getD bV 0).toNat) default).kind),vi ((n.cells.getD ((kg.getD bV 0).toNat) default).op),vi ((n.cells.getD ((kg.getD bV 0).toNat) default).out),.fz 1 (((n.cells.getD ((kg.getD bV 0).toNat) default).args).map ag),.v (.int .u64 (((n.cells.getD ((kg.getD bV 0).toNat) default).num:Nat):Int)),vi ((n.cells.getD ((kg.getD bV 0).toNat) default).mem)])]⟩) (fun pK=>pK = (if cT (n.cells.getD (kg.getD bV 0).toNat default).kind then gH iE (n.cells.getD (kg.getD bV 0).toNat default).args else 0)) ?_ (fun pK Hd=>?_)
 refine .sr (.fa du ?_)
 refine .ld bw ?_
 refine .bm Dc (la (w:=((n.cells.getD ((kg.getD bV 0).toNat) default).kind))) U (.ai U U .nil) ae U (.nil (.a8 U (fun Gn=>?_) (fun Gn=>?_)))
 refine .sr (.fa cd ?_)
 refine .ld bu ?_
 refine .vl (Y.qy (n:=((n.cells.getD ((kg.getD bV 0).toNat) default).args).length) az U fk) (.mv ?_)
 refine .nil (.block ?_)
 refine .fH (fun (pg:Int) (jf:Nat)=>⟨[(1,.fp (ab.row n) 0),(6,.aR 106 1 0 n.aa.length),(9,.ptr 109 0 0 0),(10,vi pg),(25,.fz 1 (kg.map ag)),(26,vi kg.length),(27,vi bV),(43,.fz 1 (((n.cells.getD ((kg.getD bV 0).toNat) default).args).map ag)),(44,vi ((((n.cells.getD ((kg.getD bV 0).toNat) default).args).length:Nat):Int)),(45,vi jf)],[(106,.rows 1 (iE.map ag)),(109,.cells [vi ((n.cells.getD ((kg.getD bV 0).toNat) default).kind),vi ((n.cells.getD ((kg.getD bV 0).toNat) default).op),vi ((n.cells.getD ((kg.getD bV 0).toNat) default).out),.fz 1 (((n.cells.getD ((kg.getD bV 0).toNat) default).args).map ag),.v (.int .u64 (((n.cells.getD ((kg.getD bV 0).toNat) default).num:Nat):Int)),vi ((n.cells.getD ((kg.getD bV 0).toNat) default).mem)])]⟩) (fun pg jf=>((jf:Int) <= ((((n.cells.getD ((kg.getD bV 0).toNat) default).args).length:Nat):Int)) /\ (pg = gH iE ((n.cells.getD (kg.getD bV 0).toNat default).args.take jf))) (fun pg jf=>(((((n.cells.getD ((kg.getD bV 0).toNat) default).args).length:Nat):Int) - (jf:Int)).toNat) 0 0 (⟨om,U⟩) (Le.mk (.c2 (.c (.cons (ak U bj) (.c4 (.c (.cons (ak U bj) .nil)))))) (.c (.c .nil))) (fun pg jf Mv=>?_)
 obtain ⟨VR,ht⟩:=Mv
 refine .sr (.vl (Y.zd U U) (.nil (.seq (.a8 U (fun c46=>?_) (fun c46=>?_)))))
 refine .skip (.seq (.block (.sr (.vl (Y.qt (m:=jf) az U U bj (aq (d:=0) om)) (.ld bw ?_)))))
 refine .an (.nil ?_)
 have h15:=h9c.1 ((n.cells.getD (kg.getD bV 0).toNat default).args.getD jf 0) (bQ om); unfold In at h15
 refine .region (.mv ?_)
 refine .mv ?_
 refine .mv ?_
 refine .vl (Y.qu (m:=(((n.cells.getD ((kg.getD bV 0).toNat) default).args).getD jf 0).toNat) az U U om om) (.vl (Y.zb bw U (aI (d:=0) om) U U) (.vl (Y.zf U U U) (.an (.nil (.region ?_)))))
 refine .vl (Y.qb U U aH) (.mv ?_)
 refine .nil (⟨if (iE.getD ((((n.cells.getD ((kg.getD bV 0).toNat) default).args).getD jf 0).toNat) 0) > pg then (iE.getD ((((n.cells.getD ((kg.getD bV 0).toNat) default).args).getD jf 0).toNat) 0) else pg,jf + 1,⟨om,GL ht om⟩,om,Le.mk (.c2 (.c (.cons (ak U bj) (.c4 (.c (.cons (ak U bj) .nil)))))) (.c (.c .nil))⟩)
 refine .exit ⟨pg,by first | (rw [if_pos cU,ht,show jf = (n.cells.getD (kg.getD bV 0).toNat default).args.length by omega,List.take_length]) | rw [if_neg cU],Le.mk (.c2 (.c (.cons (ak U bj) (.c2 (.c .nil))))) (.c (.c .nil))⟩
 refine .skip ⟨0,by first | (rw [if_pos cU,ht,show jf = (n.cells.getD (kg.getD bV 0).toNat default).args.length by omega,List.take_length]) | rw [if_neg cU],Le.mk (.c2 (.c (.cons (ak U bj) (.c2 (.c .nil))))) (.c (.c .nil))⟩
 have h17:=hA.UH hM hO om Hd; have aa3:=hM.oa (i:=(kg.getD bV 0).toNat) om
 refine .gm [109] [106,109] U (.blind 0 U au (aw.move U U) ae (.blind 1 U au (aw.fieldAddr eR U U) ae ?_))
 refine .load 2 U au bw U U U U U ae (.blind 3 U au (aw.move U U) ae (.fu 4 U au er U U U (aL U) U U ae ?_))
 refine .fu 5 U au fq U U U (aL U) U U ae (.DZ U U (bJ.cells U U U bJ.nil) (.one 6 U au (.bm Pa (Bs (n:=n) (c:=(n.cells.getD ((kg.getD bV 0).toNat) default)) hf.ma (hf.cells _ om) (Hm _ (getD_in om)) om) U (.ai U U (.ai U U .nil)) ae U ?_)))
 refine .nil ⟨U,(.one 7 U au (.vl (Y.qb U U aH) (.nil ⟨U,(.one 8 U au (.vl (Y.qu (m:=((n.cells.getD ((kg.getD bV 0).toNat) default).out).toNat) az U U om om) (.nil ⟨U,(.one 9 U au (.eH ((iE.set (((n.cells.getD ((kg.getD bV 0).toNat) default).out).toNat) (pK + (oa n (n.cells.getD ((kg.getD bV 0).toNat) default)))).map ag) fW U U U U U U U (aI (d:=0) om) (aL U) (cY U) ?_))⟩)))⟩)))⟩
 refine .nil ⟨U,(.done au (⟨iE.set (((n.cells.getD ((kg.getD bV 0).toNat) default).out).toNat) (pK + (oa n (n.cells.getD ((kg.getD bV 0).toNat) default))),⟨pj,by first | exact hA.Ki hf hO om cU Hd | exact hA.skip hO om (CB hf om cU)⟩,Le.mk (.c4 (.c .nil)) (.c .nil)⟩))⟩
 obtain ⟨Nr,Jq⟩:=GW
 refine .region (.vl (Y.qb U U aH) (.mv ?_))
 refine .nil (⟨bV + 1,np,⟨om,om,Jq⟩,om,Le.mk (.c4 (.cons (ak U bj) .nil)) (.c .nil)⟩)
 refine .exit (.sr (.mv ?_))
 refine .an ?_
 refine .sh (Sh.cO (d:=2) (o:=106) U U (aF om) ae) (.an (.nil (.ret ?_)))
 exact ⟨_,_,U,U,kg,iE,hO,hA.done hO om,U,U⟩
open Go Go.AW Go.Proofs
theorem vu{n:ab}(hM:VT n):ay Try.prog 146 [.agg (ab.row n)] [] [] (fun r o=>∃ cs:List Cell,DI n cs /\ r = .dn 6 (cs.map Cell.row) /\ o = []):=by
 refine ay.of Try.func146 U U U (n:=27) ae (aL U) ?_
 have hs:=hM.small; have hf:=hM.formed; have Cv:=hM.dH; have Hz:=hM.dr; have Hm:=hM.mO; have xu:=hM.nX; have QZ:=hM.cG; have Mu:=hf.dM; have Si:=hf.gM
 refine .sr (.box 101 U U U U U ae ?_)
 refine .an ?_
 refine .nil (.seq (.sh (Sh.dD 101 U U) (.region (.fa cg ?_))))
 refine .ld bu ?_
 refine .vl (Y.qy (n:=n.aa.length) az U fk) (.makeSlice (n:=n.aa.length) dZ e8 U U U U om om ae ?_)
 refine .sh (Sh.Ko (d:=9) (z':=Cell.row (⟨0,0,0,[],0,0⟩:Cell)) U U U (.same (.same (.same (.td (.same (.same .nil))))))) (.cj U ae (.sh (Sh.cz (d:=3) (n:=(List.replicate n.aa.length (⟨0,0,0,[],0,0⟩:Cell)).length) 103 ((List.replicate n.aa.length (⟨0,0,0,[],0,0⟩:Cell)).map Cell.row) U fI (aF U) ae) (.nil (.seq (.sr (.fa cK ?_))))))
 refine .ld iz ?_
 refine .vl (Y.qy (n:=n.cells.length) dZ U fk) (.mv ?_)
 refine .nil (.block (.fH (fun (ej:Nat) (mC:List Cell)=>⟨[(3,.aR 103 6 0 ((List.replicate n.aa.length (⟨0,0,0,[],0,0⟩:Cell)).length)),(11,.fz 6 (n.cells.map Cell.row)),(12,vi n.cells.length),(13,vi ej)],[(103,.rows 6 (mC.map Cell.row))]⟩) (fun ej mC=>(mC.length = (List.replicate n.aa.length (⟨0,0,0,[],0,0⟩:Cell)).length) /\ ((ej:Int) <= (n.cells.length:Int)) /\ (mZ n ej mC)) (fun ej mC=>((n.cells.length:Int) - (ej:Int)).toNat) 0 (List.replicate n.aa.length (⟨0,0,0,[],0,0⟩:Cell)) (⟨om,om,mZ.init⟩) (Le.mk (.c2 (.c (.cons (ak U bj) .nil))) (.c .nil)) (fun ej mC qM=>?_)))
 obtain ⟨Yg,Ec,hD⟩:=qM
 refine .sr (.vl (Y.zd U U) (.nil (.seq (.a8 U (fun Gw=>?_) (fun Gw=>?_)))))
 refine .skip (.fS (fun (pL:List Cell)=>⟨[(3,.aR 103 6 0 ((List.replicate n.aa.length (⟨0,0,0,[],0,0⟩:Cell)).length)),(11,.fz 6 (n.cells.map Cell.row)),(12,vi n.cells.length),(13,vi ej)],[(103,.rows 6 (pL.map Cell.row))]⟩) (fun pL=>(pL.length = (List.replicate n.aa.length (⟨0,0,0,[],0,0⟩:Cell)).length) /\ (mZ n (ej + 1) pL)) ?_ (fun pL Wz=>?_))
 refine .block (.sr (.vl (Y.qt (m:=ej) dZ U U bj (aq (d:=default) om)) (.vl (Y.zc fq U U (aL U) U U) (.alloc 105 e8 U U ae (.ao fJ U U U U U U (aL U) U ?_)))))
 refine .nil (.seq ?_)
 have h5:=FF hf (j:=ej) om; have h5l:=hD.len
 refine .region (.fa eR ?_)
 refine .ld bw ?_
 refine .vl (Y.qq U U) (.nil (.a8 U (fun tM=>?_) (fun tM=>?_)))
 refine .region (.mv ?_)
 refine .fa eR ?_
 refine .ld bw ?_
 refine .vl (Y.zc fq U U (aL U) U U) (.vl (Y.qu (m:=((n.cells.getD ej default).out).toNat) dZ U U aH aH) (.eH ((mC.set (((n.cells.getD ej default).out).toNat) (n.cells.getD ej default)).map Cell.row) fJ U U U U U U U (aI (d:=default) aH) (aL U) (cY U) (.nil (⟨mC.set (((n.cells.getD ej default).out).toNat) (n.cells.getD ej default),⟨pj,by first | exact hD.set hf om cU | exact hD.skip hf om cU⟩,Le.mk (.c2 (.c (.c .nil))) (.c .nil)⟩))))
 refine .skip (⟨mC,⟨om,by first | exact hD.set hf om cU | exact hD.skip hf om cU⟩,Le.mk (.c2 (.c (.c .nil))) (.c .nil)⟩)
 obtain ⟨Rf,L8⟩:=Wz
 refine .region (.vl (Y.qb U U aH) (.mv ?_))
 refine .nil (⟨ej + 1,pL,⟨om,om,L8⟩,om,Le.mk (.c2 (.c (.cons (ak U bj) .nil))) (.c .nil)⟩)
 refine .exit (.sr (.mv ?_))
 refine .an ?_
 exact .sh (Sh.cO (d:=2) (o:=103) U U (aF om) ae) (.nil (.ret ⟨_,_,U,U,mC,hD.done om,U,U⟩))
theorem xr{l:List Int}(hl:l.length <= 17592186043904):ay Try.prog 107 [.aR 0 1 0 l.length] [.rows 1 (l.map ag)] [0] (fun r o=>r = .tup [] /\ o = [.rows 1 (l.reverse.map ag)]):=by
 refine ay.of Try.func107 U U U (n:=28) ae (aL U) (.sr (.mv ?_))
 refine .vl (Y.qy (n:=l.length) az U U) (.vl (Y.wc U U aH) (.an ?_))
 refine .an (.nil (.block ?_))
 refine .eg (fun (rT:Int) (rU:Int) (CE:List Int)=>⟨[(0,.aR 0 1 0 l.length),(2,vi rT),(3,vi rU)],[(0,.rows 1 (CE.map ag))]⟩) (fun rT rU CE=>(CE.length = l.length) /\ (Jk l CE rT rU)) (fun rT rU CE=>(rU - rT).toNat) 0 ((l.length:Int) - 1) l (⟨om,Jk.init l⟩) (Le.mk (.c (.cons (ak U bj) (.cons (ak U bj) .nil))) (.c .nil)) (fun rT rU CE SB=>?_)
 obtain ⟨WY,hR⟩:=SB
 refine .seq (.sr (.mv ?_))
 refine .mv ?_
 refine .vl (Y.zd U U) (.nil (.a8 U (fun c9=>?_) (fun c9=>?_)))
 refine .skip (.seq (.block ?_))
 have h3:=hR.sum; have h3b:=hR.i0; have h3c:=hR.len
 refine .dS U (.blind 0 U au (aw.move U U) ae (.blind 1 U au (aw.move U U) ae ?_))
 refine .blind 2 U au (aw.move U U) ae (.blind 3 U au (aw.move U U) ae (.bX (n:=3) [4,5,6,7,8,9,10,11,12] [13,14,15] 13 U au ?_))
 refine .cn 4 U (Y.zh U U) (.cn 5 U (Y.zh U U) (.cn 6 U (Y.qu (m:=(rU).toNat) az U U om om) (.cn 7 U (Y.zb bw U (aI (d:=0) om) U U) (.cn 8 U (Y.zh U U) (.cn 9 U (Y.zh U U) (.cn 10 U (Y.qu (m:=(rT).toNat) az U U om om) (.cn 11 U (Y.zb bw U (aI (d:=0) om) U U) (.cn 12 U (Y.qu (m:=(rT).toNat) az U U om om) (.nil (.one 13 U au (.eH ((CE.set ((rT).toNat) (CE.getD ((rU).toNat) 0)).map ag) fW U U U U U U U (aI (d:=0) om) (aL U) (cY U) ?_)))))))))))
 refine .nil ⟨U,(.bX (n:=1) [14] [15] 15 U au (.cn 14 U (Y.qu (m:=(rU).toNat) az U U om om) (.nil (.one 15 U au (.eH (((CE.set ((rT).toNat) (CE.getD ((rU).toNat) 0)).set ((rU).toNat) (CE.getD ((rT).toNat) 0)).map ag) fW U U U U U U U (aI (d:=0) aH) (aL U) (cY U) ?_)))))⟩
 refine .nil ⟨U,(.done au (.region (.mv ?_)))⟩
 refine .vl (Y.qb U U aH) (.mv ?_)
 refine .vl (Y.wc U U aH) (.an ?_)
 refine .an ?_
 refine .nil (⟨rT + 1,rU - 1,(CE.set ((rT).toNat) (CE.getD ((rU).toNat) 0)).set ((rU).toNat) (CE.getD ((rT).toNat) 0),⟨pj,hR.step cU⟩,om,Le.mk (.c (.cons (ak U bj) (.cons (ak U bj) .nil))) (.c .nil)⟩)
 refine .exit ⟨_,_,U,U,U,by rw [hR.done om]⟩
open Go Go.AW Go.Proofs
theorem DR{k:Int}:ay Try.prog 152 [vi k] [] [] (fun r o=>r = .v (.bool (decide (Port k))) /\ o = []):=by
 refine ay.of Try.func152 U U U (n:=13) ae (aL U) (.sr (.an (.nil (.sr ?_))))
 refine .mv ?_
 refine .vl (Y.qm U U) (.mv ?_)
 refine .aG (d:=5) U (fun c5=>?_) (fun c5=>?_)
 refine .gz 5 (.gz 5 (.pk ?_))
 refine .mv ?_
 refine .gz 9 (.gz 9 (.pk ?_))
 refine .an (.nil (.ret ?_))
 exact .rb rfl (dt (by (simp only [Port]) <;> (first | omega | grind)))
 refine .gw 5 (Y.zh U U) (.gw 5 (Y.qm U U) (.pk ?_))
 refine .mv ?_
 refine .aG (d:=9) U (fun c9=>?_) (fun c9=>?_)
 refine .gz 9 (.gz 9 (.pk ?_))
 refine .an (.nil (.ret ?_))
 exact .rb rfl (dt (by (simp only [Port]) <;> (first | omega | grind)))
 refine .gw 9 (Y.zh U U) (.gw 9 (Y.qm U U) (.pk ?_))
 refine .an (.nil (.ret ?_))
 exact .rb rfl (dd (by (simp only [Port]) <;> (first | omega | grind)))
theorem Js{n:ab}(hM:VT n):mc Try.prog 151 [.fp (ab.row n) 0] (vp n):=by
 refine mc.of Try.func151 U U (n:=67) U (aL U) (fun yc ix q2=>?_) rfl
 have hs:=hM.small; have hf:=hM.formed; have Cv:=hM.dH; have Hz:=hM.dr; have Hm:=hM.mO; have xu:=hM.nX; have QZ:=hM.cG; have Mu:=hf.dM; have Si:=hf.gM
 refine aO.seq (aO.region ?_)
 refine .an ?_
 refine .nil (aO.seq (aO.seq ?_))
 refine aO.region ?_
 refine .fa cK ?_
 refine .ld iz ?_
 refine .vl (Y.qy (n:=n.cells.length) dZ U fk) (.mv ?_)
 refine .nil (aO.block ?_)
 refine aO.eg (fun (iS:Bool) (eU:Nat) (nQ:List (Int × Int))=>(nQ,⟨[(0,yc.v),(1,.fp (ab.row n) 0),(3,.v (.bool iS)),(11,.fz 6 (n.cells.map Cell.row)),(12,.v (.int .i64 (n.cells.length:Int))),(13,.v (.int .i64 (eU:Int)))],[]⟩)) (fun iS eU nQ=>((eU:Int) <= (n.cells.length:Int)) /\ (nQ = ix ++ lD n eU) /\ (iS = ij n eU)) (fun iS eU nQ=>((n.cells.length:Int) - (eU:Int)).toNat) false 0 ix (⟨om,by simp [lD],U⟩) (⟨U,Le.mk (.c2 (.cons (bz U o3) (.c2 (.cons (ak U bj) .nil)))) .nil⟩) (fun iS eU nQ Ad=>?_)
 obtain ⟨xD,hx,hp⟩:=Ad
 refine aO.seq (aO.region (.vl (Y.zd U U) (.nil (aO.seq ?_))))
 refine aO.a8 U (fun Gw=>?_) (fun Gw=>?_)
 refine aO.skip ?_
 refine aO.kP (fun (lL:Bool) (uZ:List (Int × Int))=>(uZ,⟨[(0,yc.v),(1,.fp (ab.row n) 0),(3,.v (.bool lL)),(11,.fz 6 (n.cells.map Cell.row)),(12,.v (.int .i64 (n.cells.length:Int))),(13,.v (.int .i64 (eU:Int)))],[]⟩)) (fun lL uZ=>uZ = ix ++ lD n (eU + 1) /\ lL = ij n (eU + 1)) ?_ (fun lL uZ yI=>?_)
 refine aO.block (aO.seq (aO.region ?_))
 refine .vl (Y.qt (m:=eU) dZ U U bj (aq (d:=default) om)) (.vl (Y.zc fq U U (aL U) U U) (.alloc 105 e8 U U ae (.ao fJ U U U U U U (aL U) U ?_)))
 refine .nil (aO.seq (aO.seq ?_))
 refine aO.region ?_
 refine .fa du ?_
 refine .ld bw ?_
 refine .bm OZ (DR (k:=((n.cells.getD eU default).kind))) U (.ai U U .nil) ae U (.vl (Y.zn U) (.nil (aO.cond U (fun Gm=>?_) (fun Gm=>?_))))
 replace Gm:¬ (Port ((n.cells.getD eU default).kind)):=by simpa using Gm
 refine aO.exit (⟨iS,nQ,by first | exact C8 hx hp om cU | exact yM WA om om cU,⟨U,Le.mk (.c2 (.cons (bz U o3) (.c2 (.c .nil)))) .nil⟩⟩)
 replace Gm:Port ((n.cells.getD eU default).kind):=by simpa using Gm
 refine aO.skip (aO.seq (aO.region ?_))
 refine .an ?_
 refine .nil (aO.seq ?_)
 have h6:=Hm (n.cells.getD eU default) (getD_in om)
 refine aO.region ?_
 refine .fa cd ?_
 refine .ld bu ?_
 refine .vl (Y.qy (n:=((n.cells.getD eU default).args).length) az U fk) (.mv ?_)
 refine .nil (aO.block ?_)
 refine aO.fH (fun (q4:Nat) (Bt:List (Int × Int))=>(Bt,⟨[(0,yc.v),(1,.fp (ab.row n) 0),(3,.v (.bool true)),(11,.fz 6 (n.cells.map Cell.row)),(12,.v (.int .i64 (n.cells.length:Int))),(13,.v (.int .i64 (eU:Int))),(22,.fz 1 (((n.cells.getD eU default).args).map ag)),(23,.v (.int .i64 ((((n.cells.getD eU default).args).length:Nat):Int))),(24,.v (.int .i64 (q4:Int)))],[]⟩)) (fun q4 Bt=>((q4:Int) <= ((((n.cells.getD eU default).args).length:Nat):Int)) /\ (Bt = (ix ++ lD n eU) ++ ((n.cells.getD eU default).args.take q4).map (fun w=>(w,(20:Int))))) (fun q4 Bt=>(((((n.cells.getD eU default).args).length:Nat):Int) - (q4:Int)).toNat) 0 nQ (⟨om,by rw [hx]; simp⟩) (⟨U,Le.mk (.c8 (.cons (ak U bj) .nil)) .nil⟩) (fun q4 Bt Gx=>?_)
 obtain ⟨RW,WA⟩:=Gx
 refine aO.seq (aO.region (.vl (Y.zd U U) (.nil (aO.seq ?_))))
 refine aO.a8 U (fun LR=>?_) (fun LR=>?_)
 refine aO.skip (aO.seq (aO.block ?_))
 refine aO.seq (aO.region ?_)
 refine .vl (Y.qt (m:=q4) az U U bj (aq (d:=0) om)) (.ld bw ?_)
 refine .an ?_
 refine .nil (aO.seq (aO.pF ?_))
 refine bh.op ?_
 refine .mv ?_
 refine .nil (bh.op ?_)
 refine .mv ?_
 refine .nil (bh.yield U U (q2 _ (by first | exact uR om cU om | exact xe (by rw [show n.cells.length = eU by omega]; rw [<- hp]; assumption) | exact xf om cU)) ae (bh.op ?_))
 refine .vl (Y.zn U) (.nil (bh.nil ?_))
 refine aO.dA U (aO.skip (aO.region ?_))
 refine .vl (Y.qb U U aH) (.mv ?_)
 refine .nil (⟨q4 + 1,Bt ++ [(((n.cells.getD eU default).args).getD q4 0,20)],⟨om,by rw [WA,take_one (d:=(0:Int)) om,List.map_append,List.append_assoc]; rfl⟩,om,⟨U,Le.mk (.c8 (.cons (ak U bj) .nil)) .nil⟩⟩)
 refine aO.exit (⟨true,Bt,by first | exact C8 hx hp om cU | exact yM WA om om cU,⟨U,Le.mk (.c2 (.cons (bz U o3) (.c2 (.c .nil)))) .nil⟩⟩)
 refine aO.region (.vl (Y.qb U U aH) (.mv ?_))
 refine .nil (⟨lL,eU + 1,uZ,⟨om,yI.1,yI.2⟩,om,⟨U,Le.mk (.c2 (.cons (bz U o3) (.c2 (.cons (ak U bj) .nil)))) .nil⟩⟩)
 refine aO.exit ?_
 refine aO.fS (fun (va:List (Int × Int))=>(va,⟨[(0,yc.v),(1,.fp (ab.row n) 0)],[]⟩)) (fun va=>va = ix ++ (lD n n.cells.length ++ oz n (ij n n.cells.length) 20)) ?_ (fun va WB=>?_)
 refine aO.seq (aO.pF (bh.op ?_))
 refine .mv ?_
 refine .nil (bh.op ?_)
 refine .mv ?_
 refine .nil (bh.split (d:=35) U (fun vo=>?_) (fun vo=>?_))
 refine bh.op (.gw 35 (Y.zh U U) (.nil (bh.op (.gw 35 (Y.qp mu U U) (.nil (bh.op (.gw 35 (Y.zb bw U U U U) (.nil (bh.aX (d:=35) U ae U (bh.yield U U (q2 _ (by first | exact uR om cU om | exact xe (by rw [show n.cells.length = eU by omega]; rw [<- hp]; assumption) | exact xf om cU)) ae (bh.op ?_)))))))))))
 refine .gw 35 (Y.zn U) (.nil (bh.op ?_))
 refine .pk ?_
 refine .nil (bh.nil (aO.dA U ?_))
 refine aO.skip (⟨nQ ++ [(n.freeze,20)],by rw [show n.cells.length = eU by omega,<- hp,hx]; first | (rw [show iS = true by assumption]; simp [oz]) | (rw [show iS = false by assumption]; simp [oz]),⟨U,Le.mk (.c (.c .nil)) .nil⟩⟩)
 refine bh.op (.gz 35 (.nil (bh.op (.gz 35 (.nil (bh.op (.gz 35 (.nil (bh.op (.gz 35 (.nil (bh.op (.gz 35 (.nil (bh.op ?_)))))))))))))))
 refine .pk ?_
 refine .nil (bh.nil (aO.dA U ?_))
 refine aO.skip (⟨nQ,by rw [show n.cells.length = eU by omega,<- hp,hx]; first | (rw [show iS = true by assumption]; simp [oz]) | (rw [show iS = false by assumption]; simp [oz]),⟨U,Le.mk (.c (.c .nil)) .nil⟩⟩)
 refine aO.seq ?_
 have Jv:=GG hf xu QZ
 refine aO.region ?_
 refine .fa w8 ?_
 refine .ld bw ?_
 refine .buildSlice (([n.done]:List Int).map ag) az cP U U U U U (aj (s:=1) (f:=ag) (fun _=>U)) U U U ae ?_
 refine .fa nD ?_
 refine .ld bu ?_
 refine .fa nE ?_
 refine .ld bu ?_
 refine .fa nG ?_
 refine .ld bu ?_
 refine .sh (Sh.bS (d:=44) (([n.done]:List Int).map ag) U fI (bN.map aE)) (.buildSlice (([([n.done]:List Int),n.bF,n.ba,n.data]:List (List Int)).map bG) cb mQ U U U U U (aj (s:=1) (f:=bG) (fun _=>U)) U U U ae ?_)
 refine .sh (Sh.bS (d:=51) (([([n.done]:List Int),n.bF,n.ba,n.data]:List (List Int)).map bG) U fI (bN.map eb)) (.bm JG (sZ (ls:=([([n.done]:List Int),n.bF,n.ba,n.data]:List (List Int))) (by simp) (by simp; omega)) U (.ai U U .nil) ae U (.vl (Y.qy (n:=(([([n.done]:List Int),n.bF,n.ba,n.data]:List (List Int)).flatten).length) az U fk) (.mv ?_)))
 refine .nil (aO.block (aO.sh (Sh.bS (d:=52) ((([([n.done]:List Int),n.bF,n.ba,n.data]:List (List Int)).flatten).map ag) U fI (bN.map aE)) ?_))
 refine aO.fH (fun (jZ:Nat) (te:List (Int × Int))=>(te,⟨[(0,yc.v),(52,.fz 1 ((([([n.done]:List Int),n.bF,n.ba,n.data]:List (List Int)).flatten).map ag)),(53,.v (.int .i64 (((([([n.done]:List Int),n.bF,n.ba,n.data]:List (List Int)).flatten).length:Nat):Int))),(54,.v (.int .i64 (jZ:Int)))],[]⟩)) (fun jZ te=>((jZ:Int) <= (((([([n.done]:List Int),n.bF,n.ba,n.data]:List (List Int)).flatten).length:Nat):Int)) /\ (te = (ix ++ (lD n n.cells.length ++ oz n (ij n n.cells.length) 20)) ++ xb (([([n.done]:List Int),n.bF,n.ba,n.data]:List (List Int)).flatten) jZ)) (fun jZ te=>((((([([n.done]:List Int),n.bF,n.ba,n.data]:List (List Int)).flatten).length:Nat):Int) - (jZ:Int)).toNat) 0 va (⟨om,by rw [WB]; simp [xb]⟩) (⟨U,Le.mk (.c2 (.c (.cons (ak U bj) .nil))) .nil⟩) (fun jZ te GC=>?_)
 obtain ⟨VF,He⟩:=GC
 refine aO.seq (aO.region (.vl (Y.zd U U) (.nil (aO.seq ?_))))
 refine aO.a8 U (fun c55=>?_) (fun c55=>?_)
 refine aO.skip ?_
 refine aO.fS (fun (vb:List (Int × Int))=>(vb,⟨[(0,yc.v),(52,.fz 1 ((([([n.done]:List Int),n.bF,n.ba,n.data]:List (List Int)).flatten).map ag)),(53,.v (.int .i64 (((([([n.done]:List Int),n.bF,n.ba,n.data]:List (List Int)).flatten).length:Nat):Int))),(54,.v (.int .i64 (jZ:Int)))],[]⟩)) (fun vb=>vb = (ix ++ (lD n n.cells.length ++ oz n (ij n n.cells.length) 20)) ++ xb (([([n.done]:List Int),n.bF,n.ba,n.data]:List (List Int)).flatten) (jZ + 1)) ?_ (fun vb Hd=>?_)
 refine aO.block (aO.seq (aO.region ?_))
 refine .vl (Y.qt (m:=jZ) az U U bj (aq (d:=0) om)) (.ld bw ?_)
 refine .an ?_
 refine .nil (aO.seq (aO.pF ?_))
 refine bh.op ?_
 refine .mv ?_
 refine .nil (bh.op (.vl (Y.qq U U) (.nil (bh.op ?_))))
 refine .mv ?_
 refine .nil (bh.aG (d:=60) U (fun QD=>?_) (fun QD=>?_))
 refine bh.op (.gw 60 (Y.zh U U) (.nil (bh.op (.gw 60 (Y.zh U U) (.nil (bh.aX (d:=60) U ae U (bh.yield U U (q2 _ (by first | exact uR om cU om | exact xe (by rw [show n.cells.length = eU by omega]; rw [<- hp]; assumption) | exact xf om cU)) ae (bh.op ?_))))))))
 refine .gw 60 (Y.zn U) (.nil (bh.op ?_))
 refine .pk ?_
 refine .nil (bh.nil (aO.dA U ?_))
 refine aO.skip (⟨te ++ [((([([n.done]:List Int),n.bF,n.ba,n.data]:List (List Int)).flatten).getD jZ 0,0)],by first | (rw [pE om,if_pos cU,He]; simp only [List.append_assoc]) | (rw [pE om,if_neg cU,He]; simp),⟨U,Le.mk (.c2 (.c (.c .nil))) .nil⟩⟩)
 refine bh.op (.gz 60 (.nil (bh.op (.gz 60 (.nil (bh.op (.gz 60 (.nil (bh.op (.gz 60 (.nil (bh.op ?_))))))))))))
 refine .pk ?_
 refine .nil (bh.nil (aO.dA U ?_))
 refine aO.skip (⟨te,by first | (rw [pE om,if_pos cU,He]; simp only [List.append_assoc]) | (rw [pE om,if_neg cU,He]; simp),⟨U,Le.mk (.c2 (.c (.c .nil))) .nil⟩⟩)
 refine aO.region (.vl (Y.qb U U aH) (.mv ?_))
 refine .nil (⟨jZ + 1,vb,⟨om,Hd⟩,om,⟨U,Le.mk (.c2 (.c (.cons (ak U bj) .nil))) .nil⟩⟩)
 refine aO.exit ⟨.inl U,by show te = _; rw [He,show jZ = (([([n.done]:List Int),n.bF,n.ba,n.data]:List (List Int)).flatten).length by omega]; simp [vp]⟩
theorem DS{n:ab}:ay Try.prog 106 [.agg (ab.row n)] [] [] (fun r o=>r = .jv (.func 151) [] [.fp (ab.row n) 0] /\ o = []):=by
 refine ay.of Try.func106 U U U (n:=4) ae (aL U) (.sr (.box 101 U U U U U ae ?_))
 refine .an ?_
 refine .nil (.sr (.sh (Sh.dD 101 U U) (.vl (Y.ze U U U U) (.an (.nil (.ret ?_))))))
 exact ⟨_,_,U,U,U,U⟩
theorem ME{n:ab}(hM:VT n):mc Try.prog 182 [.fp (ab.row n) 0] (lF n):=by
 refine mc.of Try.func182 U U (n:=45) U (aL U) (fun yc ix q2=>?_) rfl
 have hs:=hM.small; have hf:=hM.formed; have Cv:=hM.dH; have Hz:=hM.dr; have Hm:=hM.mO; have xu:=hM.nX; have QZ:=hM.cG; have Mu:=hf.dM; have Si:=hf.gM
 refine aO.seq (aO.region ?_)
 refine .an ?_
 refine .nil (aO.seq (aO.seq ?_))
 refine aO.region ?_
 refine .fa cK ?_
 refine .ld iz ?_
 refine .vl (Y.qy (n:=n.cells.length) dZ U fk) (.mv ?_)
 refine .nil (aO.block ?_)
 refine aO.eg (fun (kh:Bool) (eG:Nat) (nQ:List (Int × Int))=>(nQ,⟨[(0,yc.v),(1,.fp (ab.row n) 0),(3,.v (.bool kh)),(7,.fz 6 (n.cells.map Cell.row)),(8,.v (.int .i64 (n.cells.length:Int))),(9,.v (.int .i64 (eG:Int)))],[]⟩)) (fun kh eG nQ=>((eG:Int) <= (n.cells.length:Int)) /\ (nQ = ix ++ tr n eG) /\ (kh = lE n eG)) (fun kh eG nQ=>((n.cells.length:Int) - (eG:Int)).toNat) false 0 ix (⟨om,by simp [tr],U⟩) (⟨U,Le.mk (.c2 (.cons (bz U o3) (.c2 (.cons (ak U bj) .nil)))) .nil⟩) (fun kh eG nQ Ad=>?_)
 obtain ⟨xD,hx,hp⟩:=Ad
 refine aO.seq (aO.region (.vl (Y.zd U U) (.nil (aO.seq ?_))))
 refine aO.a8 U (fun L9=>?_) (fun L9=>?_)
 refine aO.skip ?_
 refine aO.kP (fun (ph:Bool) (yY:List (Int × Int))=>(yY,⟨[(0,yc.v),(1,.fp (ab.row n) 0),(3,.v (.bool ph)),(7,.fz 6 (n.cells.map Cell.row)),(8,.v (.int .i64 (n.cells.length:Int))),(9,.v (.int .i64 (eG:Int)))],[]⟩)) (fun ph yY=>yY = ix ++ tr n (eG + 1) /\ ph = lE n (eG + 1)) ?_ (fun ph yY L8=>?_)
 refine aO.block (aO.seq (aO.region ?_))
 refine .vl (Y.qt (m:=eG) dZ U U bj (aq (d:=default) om)) (.vl (Y.zc fq U U (aL U) U U) (.alloc 105 e8 U U ae (.ao fJ U U U U U U (aL U) U ?_)))
 refine .nil (aO.seq (aO.seq ?_))
 refine aO.region ?_
 refine .fa du ?_
 refine .ld bw ?_
 refine .vl (Y.zl U U) (.nil (aO.a8 U (fun tL=>?_) (fun tL=>?_)))
 refine aO.exit (⟨kh,nQ,by first | exact GH hx hp om cU | exact C9 hx om cU,⟨U,Le.mk (.c2 (.cons (bz U o3) (.c2 (.c .nil)))) .nil⟩⟩)
 replace tL:=Classical.not_not.1 tL
 refine aO.skip (aO.seq (aO.region ?_))
 refine .an ?_
 refine .nil (aO.seq ?_)
 have h6:=Ji hf (i:=eG) om cU
 refine aO.pF (bh.op ?_)
 refine .mv ?_
 refine .nil (bh.op ?_)
 refine .fa cd ?_
 refine .nil (bh.op ?_)
 refine .ld bu ?_
 refine .nil (bh.op ?_)
 refine .vl (Y.qt (m:=0) az U U bj (aq (d:=0) om)) (.nil (bh.op ?_))
 refine .ld bw ?_
 refine .nil (bh.yield U U (q2 _ (by first | exact uS om cU | exact uT om cU | exact xg (by rw [show n.cells.length = eG by omega]; rw [<- hp]; assumption))) ae (bh.op ?_))
 refine .vl (Y.zn U) (.nil (bh.op ?_))
 refine .mv ?_
 refine .nil (bh.op (.gw 23 (Y.zh U U) (.nil (bh.op (.gw 23 (Y.qp cd U U) (.nil (bh.op (.gw 23 (Y.zb bu U U U U) (.nil (bh.op ?_))))))))))
 refine .gw 23 (Y.qt (m:=1) az U U bj (aq (d:=0) om)) (.nil (bh.op (.gw 23 (Y.zb bw U U U U) (.nil (bh.aX (d:=23) U ae U (bh.yield U U (q2 _ (by first | exact uS om cU | exact uT om cU | exact xg (by rw [show n.cells.length = eG by omega]; rw [<- hp]; assumption))) ae ?_))))))
 refine bh.op (.gw 23 (Y.zn U) (.nil (bh.op ?_)))
 refine .pk ?_
 refine .nil (bh.nil (aO.dA U ?_))
 refine aO.skip (⟨true,(nQ ++ [(((n.cells.getD eG default).args).getD 0 0,100)]) ++ [(((n.cells.getD eG default).args).getD 1 0,60)],by first | exact GH hx hp om cU | exact C9 hx om cU,⟨U,Le.mk (.c2 (.cons (bz U o3) (.c2 (.c .nil)))) .nil⟩⟩)
 refine aO.region (.vl (Y.qb U U aH) (.mv ?_))
 refine .nil (⟨ph,eG + 1,yY,⟨om,L8.1,L8.2⟩,om,⟨U,Le.mk (.c2 (.cons (bz U o3) (.c2 (.cons (ak U bj) .nil)))) .nil⟩⟩)
 refine aO.exit ?_
 refine aO.fS (fun (yZ:List (Int × Int))=>(yZ,⟨[(0,yc.v),(1,.fp (ab.row n) 0)],[]⟩)) (fun yZ=>yZ = ix ++ (tr n n.cells.length ++ oz n (lE n n.cells.length) 100)) ?_ (fun yZ hJ9=>?_)
 refine aO.seq (aO.pF (bh.op ?_))
 refine .mv ?_
 refine .nil (bh.op ?_)
 refine .mv ?_
 refine .nil (bh.split (d:=34) U (fun Hx=>?_) (fun Hx=>?_))
 refine bh.op (.gw 34 (Y.zh U U) (.nil (bh.op (.gw 34 (Y.qp mu U U) (.nil (bh.op (.gw 34 (Y.zb bw U U U U) (.nil (bh.aX (d:=34) U ae U (bh.yield U U (q2 _ (by first | exact uS om cU | exact uT om cU | exact xg (by rw [show n.cells.length = eG by omega]; rw [<- hp]; assumption))) ae (bh.op ?_)))))))))))
 refine .gw 34 (Y.zn U) (.nil (bh.op ?_))
 refine .pk ?_
 refine .nil (bh.nil (aO.dA U ?_))
 refine aO.skip (⟨nQ ++ [(n.freeze,100)],by rw [show n.cells.length = eG by omega,<- hp,hx]; first | (rw [show kh = true by assumption]; simp [oz]) | (rw [show kh = false by assumption]; simp [oz]),⟨U,Le.mk (.c (.c .nil)) .nil⟩⟩)
 refine bh.op (.gz 34 (.nil (bh.op (.gz 34 (.nil (bh.op (.gz 34 (.nil (bh.op (.gz 34 (.nil (bh.op (.gz 34 (.nil (bh.op ?_)))))))))))))))
 refine .pk ?_
 refine .nil (bh.nil (aO.dA U ?_))
 refine aO.skip (⟨nQ,by rw [show n.cells.length = eG by omega,<- hp,hx]; first | (rw [show kh = true by assumption]; simp [oz]) | (rw [show kh = false by assumption]; simp [oz]),⟨U,Le.mk (.c (.c .nil)) .nil⟩⟩)
 refine aO.pF (bh.op (.vl (Y.zc er U U (aL U) U U) (.nil (bh.op (.bm OR (DS (n:=n)) U (.ai U U .nil) ae U ?_)))))
 refine .nil (bh.op ?_)
 refine .mv ?_
 refine .nil (bh.Mg U OY (Js (n:=n) hM) U (fun e he=>q2 e (Jh he)) ae ?_)
 refine bh.nil ⟨.inl U,by show yZ ++ vp n = _; rw [hJ9]; simp [lF]⟩
theorem DT{n:ab}:ay Try.prog 145 [.agg (ab.row n)] [] [] (fun r o=>r = .jv (.func 182) [] [.fp (ab.row n) 0] /\ o = []):=by
 refine ay.of Try.func145 U U U (n:=4) ae (aL U) (.sr (.box 101 U U U U U ae ?_))
 refine .an ?_
 refine .nil (.sr (.sh (Sh.dD 101 U U) (.vl (Y.ze U U U U) (.an (.nil (.ret ?_))))))
 exact ⟨_,_,U,U,U,U⟩
open Go Go.AW Go.Proofs
theorem Bu{n:ab}(hM:VT n):ay Try.prog 101 [.agg (ab.row n)] [] [] (fun r o=>∃ (at_ l st:List Int) (d:Int),Ord n l /\ xx n at_ /\ Hb n at_ st d /\ r = .tup [.agg [vi d,.fz 1 (st.map ag)],vi 0] /\ o = []):=by
 refine ay.ofM Try.func101 U U U (n:=93) ae (aL U) ?_
 have hs:=hM.small; have hf:=hM.formed; have Cv:=hM.dH; have Hz:=hM.dr; have Hm:=hM.mO; have xu:=hM.nX; have QZ:=hM.cG; have Mu:=hf.dM; have Si:=hf.gM
 refine gW.yP (.region (.box 101 U U U U U ae ?_))
 refine .alloc 102 l8 U U ae ?_
 refine .an ?_
 refine .nil (gW.yP (.sh (Sh.dD 101 U U) (.region (.vl (Y.zc er U U (aL U) U U) (.oH OV (vt (n:=n) hM) U (.ai U U .nil) ae ?_)))))
 rintro _ ⟨Rh,eV,Hf,z2,rfl,_⟩
 refine ⟨U,(.oJ U ae (.iL U U ae (.vl (Y.qo U U U) (.alloc 104 mQ U U ae (.sh (Sh.bS (d:=17) (eV.map ag) U fI (bN.map aE)) (.ao eD U U U U U U (aL U) U ?_))))))⟩
 refine .an ?_
 refine .nil (gW.yP (.seq (.sh (Sh.dD 104 U U) (.region (.mv ?_)))))
 refine .vl (Y.zl U U) (.nil (.dA U ?_))
 refine .skip (gW.yP (.region (.vl (Y.qh Fh l8 U U U) (.alloc 106 l8 U U ae (.alloc 107 cP U U ae ?_)))))
 refine .ao mR U U U U U U (aL U) U (.ao fW U U U U U U (aL U) U (.nil (gW.seq (gW.yP (.region (.vl (Y.zc er U U (aL U) U U) (.bm OW (DT (n:=n)) U (.ai U U .nil) ae U (.nil (gW.block ?_)))))))))
 refine gW.rangeFunc (p1:=26) (p2:=27) [106,107] (fun i=>[(106,.cells [.v (.int .i64 ((gV eV i).1)),vn]),(107,.cells [.v (.int .i64 ((gV eV i).2))])]) (fun x=>x ∈ lF n) [(4,.fp [.fz 1 (eV.map ag)] 0),(6,.ptr 106 0 0 0),(7,.ptr 107 0 0 0)] U Pb (ME (n:=n) hM) U ae ae ae (.c2 (.c .nil)) U (.c (.c .nil)) (fun _=>U) (fun i o ob h=>by exact DN (p:=yQ [106,107]) (by exact yQ.cells (by exact ⟨trivial,trivial,trivial⟩) U) (by exact yQ.cells (by exact ⟨trivial,trivial⟩) U) h) (fun l i x hgi Sb=>?_) (fun y h=>h) ?_
 have og:=xc hf Sb; have hrn:=z2.p6 hM Hf og.1; have MM:=og.1; have tk:=z2.len; unfold In at MM
 refine b9.seq (b9.region ?_)
 refine .an ?_
 refine .nil (b9.region ?_)
 refine .an ?_
 refine .nil (b9.block (b9.seq ?_))
 refine b9.gm [106,107] [106,107] U (.load 0 U au bw U U U U U ae (.blind 1 U au (aw.lss U U) ae ?_))
 refine .blind 2 U au (aw.move U U) ae ?_
 refine .aG (d:=30) U (fun rJ=>?_) (fun rJ=>?_)
 refine .ck 3 U au U ae ae U U (.ck 4 U au U ae ae U U (.ck 5 U au U ae ae U U ?_))
 refine .ck 6 U au U ae ae U U (.ck 7 U au U ae ae U U (.ck 8 U au U ae ae U U ?_))
 refine .ck 9 U au U ae ae U U (.ck 10 U au U ae ae U U (.ck 11 U au U ae ae U U ?_))
 refine .blind 12 U au (aw.pick U U U) ae (.DZ U U (bJ.cells U U U (bJ.cells U U U bJ.nil)) (.done au (b9.bf U (b9.region ?_))))
 refine .ld bu ?_
 refine .mv ?_
 refine .vl (Y.qt (m:=(x.1).toNat) az U U om (aq (d:=0) om)) (.ld bw ?_)
 refine .mv ?_
 refine .vl (Y.qb U U aH) (.mv ?_)
 refine .fa tG ?_
 refine .ao fW U U U U U U (aL U) U (.ao fW U U U U U U (aL U) U (.nil ?_))
 have hs:gV eV (i ++ [x]) = ((eV.getD ((x.1).toNat) 0) + x.2,x.1):=by (rw [qR]; unfold Jg; rw [if_pos om])
 refine ⟨U,?_⟩
 show gd _ ([(106,.cells [.v (.int .i64 ((gV eV (i ++ [x])).1)),vn]),(107,.cells [.v (.int .i64 ((gV eV (i ++ [x])).2))])]:List (Nat × Go.AW.Obj))
 rw [hs]; exact .c (.c .nil)
 refine .wV 3 U au U ae U bu U U U U U ae (.fT 4 U au U ae U (aw.move U U) ae ?_)
 refine .fT 5 U au U ae U (aw.j6 (m:=(x.1).toNat) az U U om (aq (d:=0) om)) ae ?_
 refine .wV 6 U au U ae U bw U U U U U ae (.fT 7 U au U ae U (aw.move U U) ae ?_)
 refine .fT 8 U au U ae U (aw.It U U om) ae ?_
 refine .fT 9 U au U ae U (aw.fieldAddr tG U U) ae (.wV 10 U au U ae U bw U U U U U ae (.fT 11 U au U ae U (aw.gtr U U) ae ?_))
 refine .blind 12 U au (aw.pick U U U) ae (.DZ U U (bJ.cells U U U (bJ.cells U U U bJ.nil)) (.done au (b9.a8 U (fun Md=>?_) (fun Md=>?_))))
 refine b9.region ?_
 refine .ld bu ?_
 refine .mv ?_
 refine .vl (Y.qt (m:=(x.1).toNat) az U U om (aq (d:=0) om)) (.ld bw ?_)
 refine .mv ?_
 refine .vl (Y.qb U U aH) (.mv ?_)
 refine .fa tG ?_
 refine .ao fW U U U U U U (aL U) U (.ao fW U U U U U U (aL U) U (.nil ?_))
 have hs:gV eV (i ++ [x]) = ((eV.getD ((x.1).toNat) 0) + x.2,x.1):=by (rw [qR]; unfold Jg; rw [if_pos om])
 refine ⟨U,?_⟩
 show gd _ ([(106,.cells [.v (.int .i64 ((gV eV (i ++ [x])).1)),vn]),(107,.cells [.v (.int .i64 ((gV eV (i ++ [x])).2))])]:List (Nat × Go.AW.Obj))
 rw [hs]; exact .c (.c .nil)
 refine b9.skip ?_
 have hs:gV eV (i ++ [x]) = gV eV i:=by (rw [qR]; unfold Jg; rw [if_neg om])
 refine ⟨U,?_⟩
 show gd _ ([(106,.cells [.v (.int .i64 ((gV eV (i ++ [x])).1)),vn]),(107,.cells [.v (.int .i64 ((gV eV (i ++ [x])).2))])]:List (Nat × Go.AW.Obj))
 rw [hs]; exact .c (.c .nil)
 refine gW.of (.seq ?_)
 have hW:=xd (at_:=eV) (L:=lF n) (fun e h=>(xc hf h).1.1)
 obtain ⟨e9,Yh,TG⟩:=hW.some (List.ne_nil_of_mem (GF hf))
 have h9:=xc hf Yh; have h91:(gV eV (lF n)).2 = e9.1:=by rw [TG]
 have tk:=z2.len
 refine .region (.vl (Y.zc er U U (aL U) U U) (.oH OX (vu (n:=n) hM) U (.ai U U .nil) ae ?_))
 rintro _ ⟨o0,wh,rfl,_⟩
 refine ⟨U,(.cj U ae (.sh (Sh.bS (d:=10) (o0.map Cell.row) U fI (bN.map Cell.bx)) (.nil (.fS (fun (nq:List Int)=>⟨[(2,.ptr 102 0 0 0),(6,.ptr 106 0 0 0)],[(102,.cells [vi 0,vn]),(106,.cells [vi ((gV eV (lF n)).1),.aR 301 1 0 nq.length]),(301,.rows 1 (nq.map ag))]⟩) (fun nq=>PD n eV e9.1 nq) ?_ (fun nq GD=>?_)))))⟩
 refine .block (.sh (Sh.eW 106 301 1 1 U U U U ae) (.fH (fun (bH:Int) (gx:List Int)=>⟨[(2,.ptr 102 0 0 0),(4,.fp [.fz 1 (eV.map ag)] 0),(6,.ptr 106 0 0 0),(7,.ptr 107 0 0 0),(10,.fz 6 (o0.map Cell.row))],[(102,.cells [vi 0,vn]),(106,.cells [vi ((gV eV (lF n)).1),.aR 301 1 0 gx.length]),(107,.cells [vi bH]),(301,.rows 1 (gx.map ag))]⟩) (fun bH gx=>(PP n Rh eV e9.1 gx bH)) (fun bH gx=>n.cells.length + 1 - gx.length) ((gV eV (lF n)).2) ([]:List Int) (by (rw [h91]; exact PP.init hf Hf h9.1)) (Le.mk (.c4 (.c .nil)) (.c (.cons (ax U ep) (.cons (ax U ep) (.c .nil))))) (fun bH gx AP=>?_)))
 have hP:=AP
 refine .seq (.sr (.ld bw ?_))
 refine .vl (Y.qq U U) (.nil (.a8 U (fun C7=>?_) (fun C7=>?_)))
 refine .skip (.block (.seq ?_))
 have h12:=hP.lt hf cU; have WC:=hP.Ha cU; unfold In at WC; have aa7:=wh.len; have Hg:=hP.args hf wh cU; have z5:=hP.Wx hM wh cU
 refine .region (.fa tH ?_)
 refine .ld bu ?_
 refine .ld bw ?_
 refine .buildSlice (([bH]:List Int).map ag) az cP U U U U U (aj (s:=1) (f:=ag) (fun _=>U)) U U U ae ?_
 refine .cL ag (gx ++ ([bH]:List Int)) az cP U U U U (aV aH) (aM aH) (bs aH) aH aH ae ae ?_
 refine .fa tH ?_
 refine .ao eD U U U U U U (aL U) U (.nil (.sr (.mv ?_)))
 refine .ld bw ?_
 refine .vl (Y.qt (m:=(bH).toNat) dZ U U om (aq (d:=default) om)) (.vl (Y.zc fq U U (aL U) U U) (.alloc 111 e8 U U ae (.ao fJ U U U U U U (aL U) U ?_)))
 refine .nil (.sr (.ao fW U U U U U U (aL U) U ?_))
 refine .nil (.seq (.sr (.fa du ?_)))
 refine .ld bw ?_
 refine .bm Dc (la (w:=((o0.getD ((bH).toNat) default).kind))) U (.ai U U .nil) ae U (.vl (Y.zn U) (.nil (.kM U (fun QE=>?_) (fun QE=>?_))))
 refine .exit ⟨gx ++ ([bH]:List Int),by first | exact hP.done om | exact hP.stop hf z2 wh cU cU,Le.mk (.c (.c .nil)) (.c (.cons (ax U ep) (.c .nil)))⟩
 refine .skip (.sr (.fa cd ?_))
 refine .ld bu ?_
 refine .vl (Y.qy (n:=((o0.getD ((bH).toNat) default).args).length) az U fk) (.mv ?_)
 refine .nil (.block ?_)
 refine .fH (fun (iF:Nat) (eB:Int)=>⟨[(2,.ptr 102 0 0 0),(4,.fp [.fz 1 (eV.map ag)] 0),(6,.ptr 106 0 0 0),(7,.ptr 107 0 0 0),(10,.fz 6 (o0.map Cell.row)),(68,.fz 1 (((o0.getD ((bH).toNat) default).args).map ag)),(69,vi ((((o0.getD ((bH).toNat) default).args).length:Nat):Int)),(70,vi iF)],[(102,.cells [vi 0,vn]),(106,.cells [vi ((gV eV (lF n)).1),.aR 301 1 0 ((gx ++ ([bH]:List Int)).length)]),(107,.cells [vi eB]),(301,.rows 1 ((gx ++ ([bH]:List Int)).map ag))]⟩) (fun iF eB=>((iF:Int) <= ((((o0.getD ((bH).toNat) default).args).length:Nat):Int)) /\ (rS eV ((o0.getD bH.toNat default).args.take iF) eB)) (fun iF eB=>(((((o0.getD ((bH).toNat) default).args).length:Nat):Int) - (iF:Int)).toNat) 0 (-1) (⟨om,rS.nil⟩) (Le.mk (.c4 (.c2 (.c (.cons (ak U bj) .nil)))) (.c2 (.cons (ax U ep) (.c .nil)))) (fun iF eB LJ=>?_)
 obtain ⟨TO,hB⟩:=LJ
 refine .sr (.vl (Y.zd U U) (.nil (.seq (.a8 U (fun Vb=>?_) (fun Vb=>?_)))))
 refine .skip (.fS (fun (kB:Int)=>⟨[(2,.ptr 102 0 0 0),(4,.fp [.fz 1 (eV.map ag)] 0),(6,.ptr 106 0 0 0),(7,.ptr 107 0 0 0),(10,.fz 6 (o0.map Cell.row)),(68,.fz 1 (((o0.getD ((bH).toNat) default).args).map ag)),(69,vi ((((o0.getD ((bH).toNat) default).args).length:Nat):Int)),(70,vi iF)],[(102,.cells [vi 0,vn]),(106,.cells [vi ((gV eV (lF n)).1),.aR 301 1 0 ((gx ++ ([bH]:List Int)).length)]),(107,.cells [vi kB]),(301,.rows 1 ((gx ++ ([bH]:List Int)).map ag))]⟩) (fun kB=>rS eV ((o0.getD bH.toNat default).args.take (iF + 1)) kB) ?_ (fun kB AR=>?_))
 refine .block (.seq ?_)
 have h18:=Hg ((o0.getD bH.toNat default).args.getD iF 0) (bQ om); unfold In at h18; have h19:eB < 0 \/ (0 <= eB /\ eB < (n.aa.length:Int)):=by (rcases Int.lt_or_le eB 0 with h | h; exact .inl h; exact .inr (Hg _ (hB.Ha h)))
 refine .region (.vl (Y.qt (m:=iF) az U U bj (aq (d:=0) om)) (.ld bw ?_))
 refine .an ?_
 refine .nil (.seq (.kb U au ?_))
 refine .val (Y.zb bw U U U U) ae (.val (Y.zd U U) ae (.val (Y.zh U U) ae (.aG (d:=76) U (fun Gk=>?_) (fun Gk=>?_))))
 refine .aN (d:=76) U ae ae U U (.aN (d:=76) U ae ae U U (.aN (d:=76) U ae ae U U ?_))
 refine .aN (d:=76) U ae ae U U (.aN (d:=76) U ae ae U U (.aN (d:=76) U ae ae U U ?_))
 refine .aN (d:=76) U ae ae U U (.aN (d:=76) U ae ae U U (.aN (d:=76) U ae ae U U ?_))
 refine .val (Y.zo U U U) ae (.nil (.bf U ?_))
 refine .region (.mv ?_)
 exact .ao fW U U U U U U (aL U) U (.nil ⟨((o0.getD ((bH).toNat) default).args).getD iF 0,by first | exact hB.step om (fun x hx=>(Hg x hx).1) om | exact hB.ai om om,Le.mk (.c4 (.c2 (.c (.c .nil)))) (.c2 (.cons (ax U ep) (.c .nil)))⟩)
 refine .aX (d:=76) U ae U (.val (Y.zb bu U U U U) ae (.aX (d:=76) U ae U ?_))
 refine .val (Y.zh U U) ae (.aX (d:=76) U ae U ?_)
 refine .val (Y.qt (m:=(((o0.getD ((bH).toNat) default).args).getD iF 0).toNat) az U U om (aq (d:=0) om)) ae (.aX (d:=76) U ae U (.val (Y.zb bw U U U U) ae (.aX (d:=76) U ae U ?_)))
 refine .val (Y.zb bu U U U U) ae (.aX (d:=76) U ae U (.val (Y.zb bw U U U U) ae (.aX (d:=76) U ae U (.val (Y.qt (m:=(eB).toNat) az U U om (aq (d:=0) om)) ae (.aX (d:=76) U ae U (.val (Y.zb bw U U U U) ae (.aX (d:=76) U ae U ?_)))))))
 refine .val (Y.qr U U) ae (.val (Y.zo U U U) ae (.nil (.a8 U (fun Um=>?_) (fun Um=>?_))))
 refine .region (.mv ?_)
 exact .ao fW U U U U U U (aL U) U (.nil ⟨((o0.getD ((bH).toNat) default).args).getD iF 0,by first | exact hB.step om (fun x hx=>(Hg x hx).1) om | exact hB.ai om om,Le.mk (.c4 (.c2 (.c (.c .nil)))) (.c2 (.cons (ax U ep) (.c .nil)))⟩)
 refine .skip ⟨eB,by first | exact hB.step om (fun x hx=>(Hg x hx).1) om | exact hB.ai om om,Le.mk (.c4 (.c2 (.c (.c .nil)))) (.c2 (.cons (ax U ep) (.c .nil)))⟩
 refine .region (.vl (Y.qb U U aH) (.mv ?_))
 refine .nil (⟨iF + 1,kB,⟨om,AR⟩,om,Le.mk (.c4 (.c2 (.c (.cons (ak U bj) .nil)))) (.c2 (.cons (ax U ep) (.c .nil)))⟩)
 refine .exit ⟨eB,gx ++ ([bH]:List Int),hP.go hf Hf z2 (fun w hw=>(z2.p6 hM Hf hw).1) wh cU cU (k:=iF) om hB,by (simp only [List.length_append,List.length_cons,List.length_nil]; omega),Le.mk (.c4 (.c .nil)) (.c (.cons (ax U ep) (.cons (ax U ep) (.c .nil))))⟩
 refine .exit ⟨gx,by first | exact hP.done om | exact hP.stop hf z2 wh cU cU,Le.mk (.c (.c .nil)) (.c (.cons (ax U ep) (.c .nil)))⟩
 refine .seq ?_
 have h22:=GD.len
 refine .region (.fa tH ?_)
 refine .ld bu ?_
 refine .bI [301] [] OS (xr (l:=nq) om) U (.named U U .nil) ⟨U,trivial⟩ U ae (fun _ h=>by cases h) (fun _ h=>by cases h) ae ae ?_
 rintro r aJ ⟨rfl,rfl⟩ _
 refine ⟨⟨rfl,(by intro ob aY; simp only [List.mem_cons,List.not_mem_nil,or_false] at aY; rcases aY with rfl; rfl),.inl rfl⟩,(.nil (.seq (.sh (Sh.j7 106 301 1 U U U (aF aH) (bN.map aE) ae U U U) (.region (.vl (Y.zc Pf U U (aL U) U U) (.ao mR U U U U U U (aL U) U ?_))))))⟩
 refine .an (.nil (.ret ?_))
 exact ⟨_,_,U,U,eV,Rh,_,_,Hf,z2,GD.rev (a:=e9.2) Yh (by rw [TG]) hW.max,U,U⟩
open Go Go.AW Go.Proofs
theorem rV :ay Try.prog 50 [] [] [] (fun r o=>r = .v (.bool true) /\ o = []):=by
 refine ay.of Try.func50 U U U (n:=28) ae (Nat.zero_le _) (.sr (.an (.nil (.sr ?_))))
 refine .buildSlice (([1,1]:List Int).map ag) az cP U U U U U (aj (s:=1) (f:=ag) (fun _=>U)) U U U ae ?_
 refine .buildSlice (([1,0]:List Int).map ag) az cP U U U U U (aj (s:=1) (f:=ag) (fun _=>U)) U U U ae ?_
 refine .sh (Sh.bS (d:=5) (([1,0]:List Int).map ag) U fI (bN.map aE)) (.vl (Y.qh wA e8 U U U) (.vl (Y.qh wA e8 U U U) (.sh (Sh.zD (d:=7) 1 3 U U) (.buildSlice (([(⟨4,0,0,([1,0]:List Int),0,0⟩:Cell),(⟨1,0,1,([]:List Int),0,0⟩:Cell)]:List Cell).map Cell.row) dZ e8 U U U U U (aj (s:=6) (f:=Cell.row) (fun _=>U)) U U U ae ?_))))
 refine .sh (Sh.bS (d:=8) (([(⟨4,0,0,([1,0]:List Int),0,0⟩:Cell),(⟨1,0,1,([]:List Int),0,0⟩:Cell)]:List Cell).map Cell.row) U fI (bN.map Cell.bx)) (.sh (Sh.bS (d:=4) (([1,1]:List Int).map ag) U fI (bN.map aE)) (.vl (Y.qh Pe Dg U U U) (.sh (Sh.zD (d:=9) 1 3 U U) (.sh (Sh.zD (d:=9) 5 4 U U) (.sh (Sh.zD (d:=9) 3 5 U U) (.sh (Sh.zD (d:=9) 1 6 U U) (.sh (Sh.zD (d:=9) 1 7 U U) (.sh (Sh.zD (d:=9) 1 10 U U) (.alloc 101 Dg U U ae (.ao Io U U U U U U (aL U) U (.nil (.sr (.vl (Y.zc er U U (aL U) U U) ?_)))))))))))))
 refine .oH OQ (Bu (n:=(⟨ByteArray.empty,([1,1]:List Int),([(⟨4,0,0,([1,0]:List Int),0,0⟩:Cell),(⟨1,0,1,([]:List Int),0,0⟩:Cell)]:List Cell),([]:List Int),([]:List dW),([]:List b8),([]:List Int),([]:List Int),1,0,([]:List Int)⟩:ab)) QY) U (.ai U U .nil) ae ?_
 rintro _ ⟨Yi,aa9,WD,aba,abb,WE,Ri,rfl,_⟩
 refine ⟨U,(.mv ?_)⟩
 refine .vl (Y.qo U U U) (.vl (Y.qo U U U) (.alloc 102 l8 U U ae ?_))
 refine .ao mR U U U U U U (aL U) U ?_
 refine .an (.nil (.seq ?_))
 have hp:=Jr WE Ri
 refine .region (.mv ?_)
 refine .vl (Y.qm U U) (.mv ?_)
 refine .gw 17 (Y.qp tG U U) (.gw 17 (Y.zb bw U U U U) (.gw 17 (Y.qm U U) (.pk ?_)))
 refine .mv ?_
 refine .aG (d:=22) U (fun mT=>?_) (fun mT=>?_)
 refine .gw 22 (Y.qp tH U U) (.gw 22 (Y.zb bu U U U U) (.gw 22 (Y.qy (n:=WD.length) az U fk) (.gw 22 (Y.qm U U) (.pk ?_))))
 refine .an (.nil (.ret ?_))
 exact .rb rfl (decide_eq_true om)
 refine .gz 22 (.gz 22 (.gz 22 (.gz 22 (.pk ?_))))
 refine .an (.nil (.ret ?_))
 exact .rb rfl (absurd hp.1 mT)
open Go Go.AW Go.Proofs
theorem rW{p:nt}{a:Nat}(hk:p.Ok)(ha:a < 256):ay Try.prog 12 [.agg (nt.row p),.v (.int .u8 (a:Int))] [] [] (fun r o=>r = .v (.bool true) /\ o = []):=by
 refine ay.of Try.func12 U U U (n:=117) ae (aL U) (.sr (.box 102 U U U U U ae ?_))
 refine .an ?_
 refine .nil (.seq (.seq (.sh (Sh.dD 102 U U) (.region (.bm Px (rV) U .nil ae U ?_)))))
 refine .vl (Y.zn U) (.mv ?_)
 refine .gw 14 (Y.zc Pp U U (aL U) U U) (.aX (d:=14) U ae U (.bm Tg (GZ (p:=p)) U (.ai U U .nil) ae U ?_))
 refine .gw 14 (Y.zn U) (.pk ?_)
 refine .nil (.kM U (fun UC=>?_) (fun UC=>?_))
 refine .sr (.bm Px (rV) U .nil ae U ?_)
 refine .an (.nil (.ret ?_))
 exact .rb rfl (rfl)
 refine .skip (.sr (.vl (Y.zc Pp U U (aL U) U U) (.oH Tf (DQ (p:=p) cU hk) U (.ai U U .nil) ae ?_)))
 rintro _ ⟨aK,rX,rfl,_⟩
 refine ⟨U,?_⟩
 refine .alloc 105 Dg U U ae (.sh (Sh.py (d:=21) (y:=.agg [.v (.string aK.name),.fz 1 (aK.aa.map ag),.fz 6 (aK.cells.map Cell.row),.fz 1 (aK.ins.map ag),.fz 5 (aK.aA.map dW.row),.fz 3 (aK.streams.map b8.row),.fz 1 (aK.ba.map ag),.fz 1 (aK.data.map ag),.v (.int .i64 aK.freeze),.v (.int .i64 aK.done),.fz 1 (aK.bF.map ag)]) U (by show X.mD (.agg [.v (.string aK.name),.dn 1 (aK.aa.map ag),.dn 6 (aK.cells.map Cell.row),.fz 1 (aK.ins.map ag),.fz 5 (aK.aA.map dW.row),.fz 3 (aK.streams.map b8.row),.fz 1 (aK.ba.map ag),.fz 1 (aK.data.map ag),.v (.int .i64 aK.freeze),.v (.int .i64 aK.done),.fz 1 (aK.bF.map ag)]) = _; simp only [X.mD,X.jt,X.ja (bN.map Cell.bx),X.ja (bN.map aE)])) ?_)
 refine .ao Io U U U U U U (aL U) U (.nil (.seq ?_))
 have hs:=rX.small; have hf:=rX.formed; have MC:=rX.fit; have MD:=rX.acyclic; have Cv:=rX.dH; have Hz:=rX.dr; have Ov:=rX.yb; have Hm:=rX.mO
 refine .region (.vl (Y.zc er U U (aL U) U U) (.oH Th (xn (n:=aK) rX.small (by have:=rX.yb; omega) ⟨om,om,by have:=rX.nX; omega,by have:=rX.cG; omega,by have:=rX.yb; omega⟩ (fun c hc=>by have:=rX.mO c hc; omega)) U (.ai U U .nil) ae ?_))
 rintro _ ⟨bY,e24,WG,rfl,_⟩
 refine ⟨U,(.oJ U ae (.iL U U ae (.vl (Y.qo U U U) (.alloc 106 jJ U U ae (.sh (Sh.Cc (d:=25) 0 1000 bY.bc.length U U U ae (aF U)) (.sh (Sh.Cc (d:=25) 1 1001 bY.bits.length U U U ae (aF U)) (.sh (Sh.Cc (d:=25) 2 1002 bY.next.length U U U ae (aF U)) (.ao oQ U U U U U U (aL U) U ?_))))))))⟩
 refine .an ?_
 refine .nil (.seq (.seq ?_))
 obtain ⟨WH,V,at_,hP⟩:=WG.ok (mS hf MC MD); have yA:=hP.bl; have xJ:=hP.nl; have tp:=hP.len; have wu:=(hP.Gh hf (i:=0) om).2; have QU:=hf.ma _ (getD_in (l:=aK.aa) (d:=0) (i:=0) om); unfold dO at QU
 refine .region (.mv ?_)
 refine .vl (Y.zl U U) (.mv ?_)
 refine .aG (d:=29) U (fun Hw=>?_) (fun Hw=>?_)
 exact absurd WH Hw
 refine .gw 29 (Y.qp fM U U) (.gw 29 (Y.zb gQ U U U U) (.gw 29 (Y.qy (n:=bY.bits.length) cb U U) (.gw 29 (Y.qp cg U U) (.gw 29 (Y.zb bu U U U U) (.gw 29 (Y.qy (n:=aK.aa.length) az U (congrArg some (List.length_map ..))) (.gw 29 (Y.zl U U) (.pk ?_)))))))
 refine .mv ?_
 refine .aG (d:=38) U (fun QS=>?_) (fun QS=>?_)
 exfalso; omega
 refine .gw 38 (Y.qp nH U U) (.gw 38 (Y.zb gQ U U U U) (.gw 38 (Y.qy (n:=bY.next.length) cb U U) (.gw 38 (Y.qp cK U U) (.gw 38 (Y.zb iz U U U U) (.gw 38 (Y.qy (n:=aK.cells.length) dZ U (congrArg some (List.length_map ..))) (.gw 38 (Y.zl U U) (.pk ?_)))))))
 refine .mv ?_
 refine .aG (d:=47) U (fun Jd=>?_) (fun Jd=>?_)
 exfalso; omega
 refine .gw 47 (Y.qp fM U U) (.gw 47 (Y.zb gQ U U U U) (.gw 47 (Y.qy (n:=bY.bits.length) cb U U) (.gw 47 (Y.qm U U) (.pk ?_))))
 refine .mv ?_
 refine .aG (d:=53) U (fun Qf=>?_) (fun Qf=>?_)
 exfalso; omega
 refine .gw 53 (Y.qp fM U U) (.gw 53 (Y.zb gQ U U U U) (.gw 53 (Y.qu (m:=0) cb U U bj om) (.gw 53 (Y.zb bu U (aI (d:=[]) om) U U) (.gw 53 (Y.qy (n:=(bY.bits.getD 0 []).length) az U (congrArg some (List.length_map ..))) (.gw 53 (Y.qm U U) (.pk ?_))))))
 refine .nil (.a8 U (fun QD=>?_) (fun QD=>?_))
 exfalso; omega
 refine .skip (.le (aW:=⟨[(1,.v (.int .u8 (a:Int))),(5,.ptr 105 0 0 0),(6,.ptr 106 0 0 0)],[(105,.cells [.v (.string aK.name),.fz 1 (aK.aa.map ag),.fz 6 (aK.cells.map Cell.row),.fz 1 (aK.ins.map ag),.fz 5 (aK.aA.map dW.row),.fz 3 (aK.streams.map b8.row),.fz 1 (aK.ba.map ag),.fz 1 (aK.data.map ag),vi aK.freeze,vi aK.done,.fz 1 (aK.bF.map ag)]),(106,.cells [.aR 1000 3 0 bY.bc.length,.aR 1001 1 0 bY.bits.length,.aR 1002 1 0 bY.next.length]),(1000,.rows 3 (bY.bc.map Gate.row)),(1001,.rows 1 (bY.bits.map bG)),(1002,.rows 1 (bY.next.map bG))]⟩) (Le.mk (.c2 (.c .nil)) (.c4 (.c .nil))) ?_)
 refine .seq (.sr (.mv ?_))
 refine .vl (Y.zt U U om) (.nil (.block (.sr (.vl (Y.qm U U) (.an (.nil ?_))))))
 refine .a8 U (fun DC=>?_) (fun DC=>?_)
 refine .region (.fa fM ?_)
 refine .ld gQ ?_
 refine .vl (Y.wa (l:=1) (h:=bY.bits.length) cb U (.some U) (.none _) om om) (.sh (Sh.BH (d:=81) (o:=1001) ((bY.bits.drop 1).map bG) U U (by first | omega | (simp; omega)) (v9 om) ae) (.fa fM ?_))
 refine .ao JQ U U U U U U (aL U) U (.nil (.seq (.sh (Sh.j7 106 1000 0 U U U (aF om) (bN.map Gate.bx) ae U U U) (.sh (Sh.j7 106 1001 1 U U U (aF aH) (bN.map eb) ae U U U) (.sh (Sh.j7 106 1002 2 U U U (aF om) (bN.map eb) ae U U U) ?_)))))
 have vh:¬ mb aK (⟨bY.bc,bY.bits.drop 1,bY.next⟩:gp):=Du (by simp only [List.length_drop]; omega)
 have xt:wU (⟨bY.bc,bY.bits.drop 1,bY.next⟩:gp):=eS.PZ hf hP Cv Hz
 refine .le (aW:=⟨[(5,.ptr 105 0 0 0),(6,.ptr 106 0 0 0)],[(105,.cells [.v (.string aK.name),.fz 1 (aK.aa.map ag),.fz 6 (aK.cells.map Cell.row),.fz 1 (aK.ins.map ag),.fz 5 (aK.aA.map dW.row),.fz 3 (aK.streams.map b8.row),.fz 1 (aK.ba.map ag),.fz 1 (aK.data.map ag),vi aK.freeze,vi aK.done,.fz 1 (aK.bF.map ag)]),(106,.cells [.fz 3 (bY.bc.map Gate.row),.fz 1 ((bY.bits.drop 1).map bG),.fz 1 (bY.next.map bG)])]⟩) (Le.mk (.c (.c .nil)) (.c (.c .nil))) ?_
 refine .region (.vl (Y.zc er U U (aL U) U U) (.vl (Y.zc pU U U (aL U) U U) (.bm yk (eL (n:=aK) (m:=(⟨bY.bc,bY.bits.drop 1,bY.next⟩:gp)) hs om xt.1 xt.2 vh) U (.ai U U (.ai U U .nil)) ae U ?_)))
 refine .mv ?_
 refine .vl (Y.qo U U U) (.vl (Y.qo U U U) (.alloc 108 l8 U U ae ?_))
 refine .ao mR U U U U U U (aL U) U ?_
 refine .an ?_
 refine .nil (.le (aW:=⟨[(5,.ptr 105 0 0 0),(6,.ptr 106 0 0 0),(9,vi (if fg aK ≠ 0 then fg aK else 3))],[(105,.cells [.v (.string aK.name),.fz 1 (aK.aa.map ag),.fz 6 (aK.cells.map Cell.row),.fz 1 (aK.ins.map ag),.fz 5 (aK.aA.map dW.row),.fz 3 (aK.streams.map b8.row),.fz 1 (aK.ba.map ag),.fz 1 (aK.data.map ag),vi aK.freeze,vi aK.done,.fz 1 (aK.bF.map ag)]),(106,.cells [.fz 3 (bY.bc.map Gate.row),.fz 1 ((bY.bits.drop 1).map bG),.fz 1 (bY.next.map bG)])]⟩) (Le.mk (.c2 (.c .nil)) (.c (.c .nil))) (.sr (.fa mu ?_)))
 refine .ao fW U U U U U U (aL U) U (.nil (.le (aW:=⟨[(5,.ptr 105 0 0 0),(6,.ptr 106 0 0 0),(9,vi (if fg aK ≠ 0 then fg aK else 3))],[(105,.cells [.v (.string aK.name),.fz 1 (aK.aa.map ag),.fz 6 (aK.cells.map Cell.row),.fz 1 (aK.ins.map ag),.fz 5 (aK.aA.map dW.row),.fz 3 (aK.streams.map b8.row),.fz 1 (aK.ba.map ag),.fz 1 (aK.data.map ag),vi (-1),vi aK.done,.fz 1 (aK.bF.map ag)]),(106,.cells [.fz 3 (bY.bc.map Gate.row),.fz 1 ((bY.bits.drop 1).map bG),.fz 1 (bY.next.map bG)])]⟩) (Le.mk (.c2 (.c .nil)) (.c (.c .nil))) ?_))
 refine .sr (.vl (Y.zc er U U (aL U) U U) (.vl (Y.zc pU U U (aL U) U U) (.bm yk (eL (n:=(⟨aK.name,aK.aa,aK.cells,aK.ins,aK.aA,aK.streams,aK.ba,aK.data,-1,aK.done,aK.bF⟩:ab)) (m:=(⟨bY.bc,bY.bits.drop 1,bY.next⟩:gp)) (hs.fz _) (by show aK.aa.length + aK.ins.length <= _; omega) xt.1 xt.2 (fun h=>vh ⟨h.dw,h.bl,h.nl,h.p6⟩)) U (.ai U U (.ai U U .nil)) ae U ?_)))
 refine .mv ?_
 refine .vl (Y.qo U U U) (.vl (Y.qo U U U) (.alloc 110 l8 U U ae ?_))
 refine .ao mR U U U U U U (aL U) U ?_
 refine .an (.nil (.sr ?_))
 refine .mv ?_
 refine .vl (Y.qm U U) (.mv ?_)
 refine .aG (d:=113) U (fun vc=>?_) (fun vc=>?_)
 refine .gw 113 (Y.zh U U) (.gw 113 (Y.qm U U) (.pk ?_))
 refine .an (.nil (.ret ?_))
 exact .rb rfl (decide_eq_true (by split; exact nJ rfl; rfl))
 exact absurd (by rw [if_neg (fun h=>h (mS hf MC MD))]) vc
 refine .sr (.vl (Y.qm U U) (.an (.nil ?_)))
 refine .a8 U (fun c83=>?_) (fun c83=>?_)
 refine .region (.fa nH ?_)
 refine .ld gQ ?_
 refine .buildSlice (List.replicate 1 [.v (.slice none 0 0)]) cb mQ U U U U U (fun r hr=>by rw [(List.mem_replicate.1 hr).2]; rfl) U U U ae ?_
 refine .sh (Sh.Ko (d:=87) (n:=1) (z':=bG []) U U U (.td .nil)) (.sh (Sh.Tt (d:=87) (([([]:List Int)]:List (List Int)).map bG) U U) (.cL bG (bY.next ++ ([([]:List Int)]:List (List Int))) cb mQ U U U U (aV aH) (aM aH) (bs aH) aH aH ae ae ?_))
 refine .fa nH ?_
 refine .ao JQ U U U U U U (aL U) U (.nil (.seq (.sh (Sh.j7 106 1000 0 U U U (aF om) (bN.map Gate.bx) ae U U U) (.sh (Sh.j7 106 1001 1 U U U (aF aH) (bN.map eb) ae U U U) (.sh (Sh.j7 106 1002 2 U U U (aF om) (bN.map eb) ae U U U) ?_)))))
 have vh:¬ mb aK (⟨bY.bc,bY.bits,bY.next ++ ([([]:List Int)]:List (List Int))⟩:gp):=Dv (by simp only [List.length_append,List.length_singleton]; omega)
 have xt:wU (⟨bY.bc,bY.bits,bY.next ++ ([([]:List Int)]:List (List Int))⟩:gp):=eS.Qa hf hP Cv Hz
 refine .le (aW:=⟨[(5,.ptr 105 0 0 0),(6,.ptr 106 0 0 0)],[(105,.cells [.v (.string aK.name),.fz 1 (aK.aa.map ag),.fz 6 (aK.cells.map Cell.row),.fz 1 (aK.ins.map ag),.fz 5 (aK.aA.map dW.row),.fz 3 (aK.streams.map b8.row),.fz 1 (aK.ba.map ag),.fz 1 (aK.data.map ag),vi aK.freeze,vi aK.done,.fz 1 (aK.bF.map ag)]),(106,.cells [.fz 3 (bY.bc.map Gate.row),.fz 1 (bY.bits.map bG),.fz 1 ((bY.next ++ ([([]:List Int)]:List (List Int))).map bG)])]⟩) (Le.mk (.c (.c .nil)) (.c (.c .nil))) ?_
 refine .region (.vl (Y.zc er U U (aL U) U U) (.vl (Y.zc pU U U (aL U) U U) (.bm yk (eL (n:=aK) (m:=(⟨bY.bc,bY.bits,bY.next ++ ([([]:List Int)]:List (List Int))⟩:gp)) hs om xt.1 xt.2 vh) U (.ai U U (.ai U U .nil)) ae U ?_)))
 refine .mv ?_
 refine .vl (Y.qo U U U) (.vl (Y.qo U U U) (.alloc 108 l8 U U ae ?_))
 refine .ao mR U U U U U U (aL U) U ?_
 refine .an ?_
 refine .nil (.le (aW:=⟨[(5,.ptr 105 0 0 0),(6,.ptr 106 0 0 0),(9,vi (if fg aK ≠ 0 then fg aK else 3))],[(105,.cells [.v (.string aK.name),.fz 1 (aK.aa.map ag),.fz 6 (aK.cells.map Cell.row),.fz 1 (aK.ins.map ag),.fz 5 (aK.aA.map dW.row),.fz 3 (aK.streams.map b8.row),.fz 1 (aK.ba.map ag),.fz 1 (aK.data.map ag),vi aK.freeze,vi aK.done,.fz 1 (aK.bF.map ag)]),(106,.cells [.fz 3 (bY.bc.map Gate.row),.fz 1 (bY.bits.map bG),.fz 1 ((bY.next ++ ([([]:List Int)]:List (List Int))).map bG)])]⟩) (Le.mk (.c2 (.c .nil)) (.c (.c .nil))) (.sr (.fa mu ?_)))
 refine .ao fW U U U U U U (aL U) U (.nil (.le (aW:=⟨[(5,.ptr 105 0 0 0),(6,.ptr 106 0 0 0),(9,vi (if fg aK ≠ 0 then fg aK else 3))],[(105,.cells [.v (.string aK.name),.fz 1 (aK.aa.map ag),.fz 6 (aK.cells.map Cell.row),.fz 1 (aK.ins.map ag),.fz 5 (aK.aA.map dW.row),.fz 3 (aK.streams.map b8.row),.fz 1 (aK.ba.map ag),.fz 1 (aK.data.map ag),vi (-1),vi aK.done,.fz 1 (aK.bF.map ag)]),(106,.cells [.fz 3 (bY.bc.map Gate.row),.fz 1 (bY.bits.map bG),.fz 1 ((bY.next ++ ([([]:List Int)]:List (List Int))).map bG)])]⟩) (Le.mk (.c2 (.c .nil)) (.c (.c .nil))) ?_))
 refine .sr (.vl (Y.zc er U U (aL U) U U) (.vl (Y.zc pU U U (aL U) U U) (.bm yk (eL (n:=(⟨aK.name,aK.aa,aK.cells,aK.ins,aK.aA,aK.streams,aK.ba,aK.data,-1,aK.done,aK.bF⟩:ab)) (m:=(⟨bY.bc,bY.bits,bY.next ++ ([([]:List Int)]:List (List Int))⟩:gp)) (hs.fz _) (by show aK.aa.length + aK.ins.length <= _; omega) xt.1 xt.2 (fun h=>vh ⟨h.dw,h.bl,h.nl,h.p6⟩)) U (.ai U U (.ai U U .nil)) ae U ?_)))
 refine .mv ?_
 refine .vl (Y.qo U U U) (.vl (Y.qo U U U) (.alloc 110 l8 U U ae ?_))
 refine .ao mR U U U U U U (aL U) U ?_
 refine .an (.nil (.sr ?_))
 refine .mv ?_
 refine .vl (Y.qm U U) (.mv ?_)
 refine .aG (d:=113) U (fun vc=>?_) (fun vc=>?_)
 refine .gw 113 (Y.zh U U) (.gw 113 (Y.qm U U) (.pk ?_))
 refine .an (.nil (.ret ?_))
 exact .rb rfl (decide_eq_true (by split; exact nJ rfl; rfl))
 exact absurd (by rw [if_neg (fun h=>h (mS hf MC MD))]) vc
 refine .sr (.vl (Y.qm U U) (.an (.nil ?_)))
 refine .a8 U (fun c90=>?_) (fun c90=>?_)
 refine .region (.fa p9 ?_)
 refine .ld wF ?_
 refine .vl (Y.qh JO ux U U U) (.buildSlice (([(⟨77,0,0⟩:Gate)]:List Gate).map Gate.row) uw ux U U U U U (aj (s:=3) (f:=Gate.row) (fun _=>U)) U U U ae ?_)
 refine .cL Gate.row (bY.bc ++ ([(⟨77,0,0⟩:Gate)]:List Gate)) uw ux U U U U (aV aH) (aM aH) (bs aH) aH aH ae ae ?_
 refine .fa p9 ?_
 refine .ao Lc U U U U U U (aL U) U (.nil (.seq (.sh (Sh.j7 106 1000 0 U U U (aF om) (bN.map Gate.bx) ae U U U) (.sh (Sh.j7 106 1001 1 U U U (aF aH) (bN.map eb) ae U U U) (.sh (Sh.j7 106 1002 2 U U U (aF om) (bN.map eb) ae U U U) ?_)))))
 have vh:¬ mb aK (⟨bY.bc ++ ([(⟨77,0,0⟩:Gate)]:List Gate),bY.bits,bY.next⟩:gp):=Dw ae
 have xt:wU (⟨bY.bc ++ ([(⟨77,0,0⟩:Gate)]:List Gate),bY.bits,bY.next⟩:gp):=eS.Qb hf hP Cv Hz
 refine .le (aW:=⟨[(5,.ptr 105 0 0 0),(6,.ptr 106 0 0 0)],[(105,.cells [.v (.string aK.name),.fz 1 (aK.aa.map ag),.fz 6 (aK.cells.map Cell.row),.fz 1 (aK.ins.map ag),.fz 5 (aK.aA.map dW.row),.fz 3 (aK.streams.map b8.row),.fz 1 (aK.ba.map ag),.fz 1 (aK.data.map ag),vi aK.freeze,vi aK.done,.fz 1 (aK.bF.map ag)]),(106,.cells [.fz 3 ((bY.bc ++ ([(⟨77,0,0⟩:Gate)]:List Gate)).map Gate.row),.fz 1 (bY.bits.map bG),.fz 1 (bY.next.map bG)])]⟩) (Le.mk (.c (.c .nil)) (.c (.c .nil))) ?_
 refine .region (.vl (Y.zc er U U (aL U) U U) (.vl (Y.zc pU U U (aL U) U U) (.bm yk (eL (n:=aK) (m:=(⟨bY.bc ++ ([(⟨77,0,0⟩:Gate)]:List Gate),bY.bits,bY.next⟩:gp)) hs om xt.1 xt.2 vh) U (.ai U U (.ai U U .nil)) ae U ?_)))
 refine .mv ?_
 refine .vl (Y.qo U U U) (.vl (Y.qo U U U) (.alloc 108 l8 U U ae ?_))
 refine .ao mR U U U U U U (aL U) U ?_
 refine .an ?_
 refine .nil (.le (aW:=⟨[(5,.ptr 105 0 0 0),(6,.ptr 106 0 0 0),(9,vi (if fg aK ≠ 0 then fg aK else 3))],[(105,.cells [.v (.string aK.name),.fz 1 (aK.aa.map ag),.fz 6 (aK.cells.map Cell.row),.fz 1 (aK.ins.map ag),.fz 5 (aK.aA.map dW.row),.fz 3 (aK.streams.map b8.row),.fz 1 (aK.ba.map ag),.fz 1 (aK.data.map ag),vi aK.freeze,vi aK.done,.fz 1 (aK.bF.map ag)]),(106,.cells [.fz 3 ((bY.bc ++ ([(⟨77,0,0⟩:Gate)]:List Gate)).map Gate.row),.fz 1 (bY.bits.map bG),.fz 1 (bY.next.map bG)])]⟩) (Le.mk (.c2 (.c .nil)) (.c (.c .nil))) (.sr (.fa mu ?_)))
 refine .ao fW U U U U U U (aL U) U (.nil (.le (aW:=⟨[(5,.ptr 105 0 0 0),(6,.ptr 106 0 0 0),(9,vi (if fg aK ≠ 0 then fg aK else 3))],[(105,.cells [.v (.string aK.name),.fz 1 (aK.aa.map ag),.fz 6 (aK.cells.map Cell.row),.fz 1 (aK.ins.map ag),.fz 5 (aK.aA.map dW.row),.fz 3 (aK.streams.map b8.row),.fz 1 (aK.ba.map ag),.fz 1 (aK.data.map ag),vi (-1),vi aK.done,.fz 1 (aK.bF.map ag)]),(106,.cells [.fz 3 ((bY.bc ++ ([(⟨77,0,0⟩:Gate)]:List Gate)).map Gate.row),.fz 1 (bY.bits.map bG),.fz 1 (bY.next.map bG)])]⟩) (Le.mk (.c2 (.c .nil)) (.c (.c .nil))) ?_))
 refine .sr (.vl (Y.zc er U U (aL U) U U) (.vl (Y.zc pU U U (aL U) U U) (.bm yk (eL (n:=(⟨aK.name,aK.aa,aK.cells,aK.ins,aK.aA,aK.streams,aK.ba,aK.data,-1,aK.done,aK.bF⟩:ab)) (m:=(⟨bY.bc ++ ([(⟨77,0,0⟩:Gate)]:List Gate),bY.bits,bY.next⟩:gp)) (hs.fz _) (by show aK.aa.length + aK.ins.length <= _; omega) xt.1 xt.2 (fun h=>vh ⟨h.dw,h.bl,h.nl,h.p6⟩)) U (.ai U U (.ai U U .nil)) ae U ?_)))
 refine .mv ?_
 refine .vl (Y.qo U U U) (.vl (Y.qo U U U) (.alloc 110 l8 U U ae ?_))
 refine .ao mR U U U U U U (aL U) U ?_
 refine .an (.nil (.sr ?_))
 refine .mv ?_
 refine .vl (Y.qm U U) (.mv ?_)
 refine .aG (d:=113) U (fun vc=>?_) (fun vc=>?_)
 refine .gw 113 (Y.zh U U) (.gw 113 (Y.qm U U) (.pk ?_))
 refine .an (.nil (.ret ?_))
 exact .rb rfl (decide_eq_true (by split; exact nJ rfl; rfl))
 exact absurd (by rw [if_neg (fun h=>h (mS hf MC MD))]) vc
 refine .jm [106] [106,1000,1001,1002] (⟨[(5,.ptr 105 0 0 0),(6,.ptr 106 0 0 0)],[(105,.cells [.v (.string aK.name),.fz 1 (aK.aa.map ag),.fz 6 (aK.cells.map Cell.row),.fz 1 (aK.ins.map ag),.fz 5 (aK.aA.map dW.row),.fz 3 (aK.streams.map b8.row),.fz 1 (aK.ba.map ag),.fz 1 (aK.data.map ag),.v (.int .i64 aK.freeze),.v (.int .i64 aK.done),.fz 1 (aK.bF.map ag)]),(106,.cells [.aR 1000 3 0 bY.bc.length,.aR 1001 1 0 bY.bits.length,.aR 1002 1 0 bY.next.length]),(1000,.rows 3 (bY.bc.map Gate.row)),(1001,.rows 1 ((bY.bits.set 0 ((([]:List Int) ++ (bY.bits.getD 0 [])) ++ ([(bY.bc.length:Int)]:List Int))).map bG)),(1002,.rows 1 (bY.next.map bG))]⟩) U ?_ ?_
 refine .blind 0 U au (aw.fieldAddr fM U U) ae (.load 1 U au gQ U U U U U ae (.blind 3 U au (aw.fieldAddr fM U U) ae ?_))
 refine .load 4 U au gQ U U U U U ae (.blind 5 U au (aw.uy (m:=0) cb U U bj om) ae ?_)
 refine .blind 8 U au (aw.fieldAddr p9 U U) ae (.load 9 U au wF U U U U U ae (.blind 10 U au (aw.len (n:=bY.bc.length) uw U U) ae ?_))
 refine .DZ U U (bJ.cells U U U bJ.nil) ?_
 refine .three 2 6 11 U U U au ?_ ?_ ?_
 refine .buildSlice (([]:List Int).map ag) az cP U U U U U (aj (s:=1) (f:=ag) (fun _=>U)) U U U ae ?_
 refine .nil ⟨U,(.two 6 11 U U au ?_ ?_)⟩
 refine .vl (Y.zb bu U (aI (d:=[]) om) U U) (.nil ⟨U,(.two 7 11 U U au ?_ ?_)⟩)
 refine .sh (Sh.cz (d:=65) (n:=([]:List Int).length) 165 (([]:List Int).map ag) U fI (aF U) ae) (.g5 ((([]:List Int) ++ (bY.bits.getD 0 [])).map ag) (([]:List Int) ++ (bY.bits.getD 0 [])).length az cP U U U U (aV aH) (aM aH) (bs aH) aH aH ae ae ?_)
 refine .nil ⟨U,(.one 11 U au (.buildSlice (([(bY.bc.length:Int)]:List Int).map ag) az cP U U U U U (aj (s:=1) (f:=ag) (fun _=>U)) U U U ae ?_))⟩
 refine .nil ⟨U,(.one 12 U au (.cL ag ((([]:List Int) ++ (bY.bits.getD 0 [])) ++ ([(bY.bc.length:Int)]:List Int)) az cP U U U U (aV aH) (aM aH) (bs aH) aH aH ae ae ?_))⟩
 refine .nil ⟨U,(.one 13 U au (.vl (Y.qu (m:=0) cb U U bj om) (.nil ⟨U,(.one 14 U au (.sh (Sh.cO (d:=75) (o:=165) U U (aF om) ae) (.sh (Sh.bS (d:=75) (((([]:List Int) ++ (bY.bits.getD 0 [])) ++ ([(bY.bc.length:Int)]:List Int)).map ag) U fI (bN.map aE)) (.eH ((bY.bits.set 0 ((([]:List Int) ++ (bY.bits.getD 0 [])) ++ ([(bY.bc.length:Int)]:List Int))).map bG) eD U U U U U U U (aI (d:=[]) om) (aL U) (cY U) ?_))))⟩)))⟩
 exact .nil ⟨U,(.done au (Le.mk (.c (.c .nil)) (.c4 (.c .nil))))⟩
 refine .buildSlice (([(bY.bc.length:Int)]:List Int).map ag) az cP U U U U U (aj (s:=1) (f:=ag) (fun _=>U)) U U U ae ?_
 refine .nil ⟨U,(.one 7 U au (.sh (Sh.cz (d:=65) (n:=([]:List Int).length) 165 (([]:List Int).map ag) U fI (aF U) ae) (.g5 ((([]:List Int) ++ (bY.bits.getD 0 [])).map ag) (([]:List Int) ++ (bY.bits.getD 0 [])).length az cP U U U U (aV aH) (aM aH) (bs aH) aH aH ae ae ?_)))⟩
 refine .nil ⟨U,(.one 12 U au (.cL ag ((([]:List Int) ++ (bY.bits.getD 0 [])) ++ ([(bY.bc.length:Int)]:List Int)) az cP U U U U (aV aH) (aM aH) (bs aH) aH aH ae ae ?_))⟩
 refine .nil ⟨U,(.one 13 U au (.vl (Y.qu (m:=0) cb U U bj om) (.nil ⟨U,(.one 14 U au (.sh (Sh.cO (d:=75) (o:=165) U U (aF om) ae) (.sh (Sh.bS (d:=75) (((([]:List Int) ++ (bY.bits.getD 0 [])) ++ ([(bY.bc.length:Int)]:List Int)).map ag) U fI (bN.map aE)) (.eH ((bY.bits.set 0 ((([]:List Int) ++ (bY.bits.getD 0 [])) ++ ([(bY.bc.length:Int)]:List Int))).map bG) eD U U U U U U U (aI (d:=[]) om) (aL U) (cY U) ?_))))⟩)))⟩
 exact .nil ⟨U,(.done au (Le.mk (.c (.c .nil)) (.c4 (.c .nil))))⟩
 refine .buildSlice (([(bY.bc.length:Int)]:List Int).map ag) az cP U U U U U (aj (s:=1) (f:=ag) (fun _=>U)) U U U ae ?_
 refine .nil ⟨U,(.one 6 U au (.vl (Y.zb bu U (aI (d:=[]) om) U U) (.nil ⟨U,(.one 7 U au (.sh (Sh.cz (d:=65) (n:=([]:List Int).length) 165 (([]:List Int).map ag) U fI (aF U) ae) (.g5 ((([]:List Int) ++ (bY.bits.getD 0 [])).map ag) (([]:List Int) ++ (bY.bits.getD 0 [])).length az cP U U U U (aV aH) (aM aH) (bs aH) aH aH ae ae ?_)))⟩)))⟩
 refine .nil ⟨U,(.one 12 U au (.cL ag ((([]:List Int) ++ (bY.bits.getD 0 [])) ++ ([(bY.bc.length:Int)]:List Int)) az cP U U U U (aV aH) (aM aH) (bs aH) aH aH ae ae ?_))⟩
 refine .nil ⟨U,(.one 13 U au (.vl (Y.qu (m:=0) cb U U bj om) (.nil ⟨U,(.one 14 U au (.sh (Sh.cO (d:=75) (o:=165) U U (aF om) ae) (.sh (Sh.bS (d:=75) (((([]:List Int) ++ (bY.bits.getD 0 [])) ++ ([(bY.bc.length:Int)]:List Int)).map ag) U fI (bN.map aE)) (.eH ((bY.bits.set 0 ((([]:List Int) ++ (bY.bits.getD 0 [])) ++ ([(bY.bc.length:Int)]:List Int))).map bG) eD U U U U U U U (aI (d:=[]) om) (aL U) (cY U) ?_))))⟩)))⟩
 exact .nil ⟨U,(.done au (Le.mk (.c (.c .nil)) (.c4 (.c .nil))))⟩
 refine .vl (Y.zb bu U (aI (d:=[]) om) U U) (.nil ⟨U,(.two 2 11 U U au ?_ ?_)⟩)
 refine .buildSlice (([]:List Int).map ag) az cP U U U U U (aj (s:=1) (f:=ag) (fun _=>U)) U U U ae ?_
 refine .nil ⟨U,(.two 7 11 U U au ?_ ?_)⟩
 refine .sh (Sh.cz (d:=65) (n:=([]:List Int).length) 165 (([]:List Int).map ag) U fI (aF U) ae) (.g5 ((([]:List Int) ++ (bY.bits.getD 0 [])).map ag) (([]:List Int) ++ (bY.bits.getD 0 [])).length az cP U U U U (aV aH) (aM aH) (bs aH) aH aH ae ae ?_)
 refine .nil ⟨U,(.one 11 U au (.buildSlice (([(bY.bc.length:Int)]:List Int).map ag) az cP U U U U U (aj (s:=1) (f:=ag) (fun _=>U)) U U U ae ?_))⟩
 refine .nil ⟨U,(.one 12 U au (.cL ag ((([]:List Int) ++ (bY.bits.getD 0 [])) ++ ([(bY.bc.length:Int)]:List Int)) az cP U U U U (aV aH) (aM aH) (bs aH) aH aH ae ae ?_))⟩
 refine .nil ⟨U,(.one 13 U au (.vl (Y.qu (m:=0) cb U U bj om) (.nil ⟨U,(.one 14 U au (.sh (Sh.cO (d:=75) (o:=165) U U (aF om) ae) (.sh (Sh.bS (d:=75) (((([]:List Int) ++ (bY.bits.getD 0 [])) ++ ([(bY.bc.length:Int)]:List Int)).map ag) U fI (bN.map aE)) (.eH ((bY.bits.set 0 ((([]:List Int) ++ (bY.bits.getD 0 [])) ++ ([(bY.bc.length:Int)]:List Int))).map bG) eD U U U U U U U (aI (d:=[]) om) (aL U) (cY U) ?_))))⟩)))⟩
 exact .nil ⟨U,(.done au (Le.mk (.c (.c .nil)) (.c4 (.c .nil))))⟩
 refine .buildSlice (([(bY.bc.length:Int)]:List Int).map ag) az cP U U U U U (aj (s:=1) (f:=ag) (fun _=>U)) U U U ae ?_
 refine .nil ⟨U,(.one 7 U au (.sh (Sh.cz (d:=65) (n:=([]:List Int).length) 165 (([]:List Int).map ag) U fI (aF U) ae) (.g5 ((([]:List Int) ++ (bY.bits.getD 0 [])).map ag) (([]:List Int) ++ (bY.bits.getD 0 [])).length az cP U U U U (aV aH) (aM aH) (bs aH) aH aH ae ae ?_)))⟩
 refine .nil ⟨U,(.one 12 U au (.cL ag ((([]:List Int) ++ (bY.bits.getD 0 [])) ++ ([(bY.bc.length:Int)]:List Int)) az cP U U U U (aV aH) (aM aH) (bs aH) aH aH ae ae ?_))⟩
 refine .nil ⟨U,(.one 13 U au (.vl (Y.qu (m:=0) cb U U bj om) (.nil ⟨U,(.one 14 U au (.sh (Sh.cO (d:=75) (o:=165) U U (aF om) ae) (.sh (Sh.bS (d:=75) (((([]:List Int) ++ (bY.bits.getD 0 [])) ++ ([(bY.bc.length:Int)]:List Int)).map ag) U fI (bN.map aE)) (.eH ((bY.bits.set 0 ((([]:List Int) ++ (bY.bits.getD 0 [])) ++ ([(bY.bc.length:Int)]:List Int))).map bG) eD U U U U U U U (aI (d:=[]) om) (aL U) (cY U) ?_))))⟩)))⟩
 exact .nil ⟨U,(.done au (Le.mk (.c (.c .nil)) (.c4 (.c .nil))))⟩
 refine .buildSlice (([(bY.bc.length:Int)]:List Int).map ag) az cP U U U U U (aj (s:=1) (f:=ag) (fun _=>U)) U U U ae ?_
 refine .nil ⟨U,(.one 2 U au (.buildSlice (([]:List Int).map ag) az cP U U U U U (aj (s:=1) (f:=ag) (fun _=>U)) U U U ae ?_))⟩
 refine .nil ⟨U,(.one 7 U au (.sh (Sh.cz (d:=65) (n:=([]:List Int).length) 165 (([]:List Int).map ag) U fI (aF U) ae) (.g5 ((([]:List Int) ++ (bY.bits.getD 0 [])).map ag) (([]:List Int) ++ (bY.bits.getD 0 [])).length az cP U U U U (aV aH) (aM aH) (bs aH) aH aH ae ae ?_)))⟩
 refine .nil ⟨U,(.one 12 U au (.cL ag ((([]:List Int) ++ (bY.bits.getD 0 [])) ++ ([(bY.bc.length:Int)]:List Int)) az cP U U U U (aV aH) (aM aH) (bs aH) aH aH ae ae ?_))⟩
 refine .nil ⟨U,(.one 13 U au (.vl (Y.qu (m:=0) cb U U bj om) (.nil ⟨U,(.one 14 U au (.sh (Sh.cO (d:=75) (o:=165) U U (aF om) ae) (.sh (Sh.bS (d:=75) (((([]:List Int) ++ (bY.bits.getD 0 [])) ++ ([(bY.bc.length:Int)]:List Int)).map ag) U fI (bN.map aE)) (.eH ((bY.bits.set 0 ((([]:List Int) ++ (bY.bits.getD 0 [])) ++ ([(bY.bc.length:Int)]:List Int))).map bG) eD U U U U U U U (aI (d:=[]) om) (aL U) (cY U) ?_))))⟩)))⟩
 exact .nil ⟨U,(.done au (Le.mk (.c (.c .nil)) (.c4 (.c .nil))))⟩
 refine .buildSlice (([(bY.bc.length:Int)]:List Int).map ag) az cP U U U U U (aj (s:=1) (f:=ag) (fun _=>U)) U U U ae ?_
 refine .nil ⟨U,(.two 2 6 U U au ?_ ?_)⟩
 refine .buildSlice (([]:List Int).map ag) az cP U U U U U (aj (s:=1) (f:=ag) (fun _=>U)) U U U ae ?_
 refine .nil ⟨U,(.one 6 U au (.vl (Y.zb bu U (aI (d:=[]) om) U U) (.nil ⟨U,(.one 7 U au (.sh (Sh.cz (d:=65) (n:=([]:List Int).length) 165 (([]:List Int).map ag) U fI (aF U) ae) (.g5 ((([]:List Int) ++ (bY.bits.getD 0 [])).map ag) (([]:List Int) ++ (bY.bits.getD 0 [])).length az cP U U U U (aV aH) (aM aH) (bs aH) aH aH ae ae ?_)))⟩)))⟩
 refine .nil ⟨U,(.one 12 U au (.cL ag ((([]:List Int) ++ (bY.bits.getD 0 [])) ++ ([(bY.bc.length:Int)]:List Int)) az cP U U U U (aV aH) (aM aH) (bs aH) aH aH ae ae ?_))⟩
 refine .nil ⟨U,(.one 13 U au (.vl (Y.qu (m:=0) cb U U bj om) (.nil ⟨U,(.one 14 U au (.sh (Sh.cO (d:=75) (o:=165) U U (aF om) ae) (.sh (Sh.bS (d:=75) (((([]:List Int) ++ (bY.bits.getD 0 [])) ++ ([(bY.bc.length:Int)]:List Int)).map ag) U fI (bN.map aE)) (.eH ((bY.bits.set 0 ((([]:List Int) ++ (bY.bits.getD 0 [])) ++ ([(bY.bc.length:Int)]:List Int))).map bG) eD U U U U U U U (aI (d:=[]) om) (aL U) (cY U) ?_))))⟩)))⟩
 exact .nil ⟨U,(.done au (Le.mk (.c (.c .nil)) (.c4 (.c .nil))))⟩
 refine .vl (Y.zb bu U (aI (d:=[]) om) U U) (.nil ⟨U,(.one 2 U au (.buildSlice (([]:List Int).map ag) az cP U U U U U (aj (s:=1) (f:=ag) (fun _=>U)) U U U ae ?_))⟩)
 refine .nil ⟨U,(.one 7 U au (.sh (Sh.cz (d:=65) (n:=([]:List Int).length) 165 (([]:List Int).map ag) U fI (aF U) ae) (.g5 ((([]:List Int) ++ (bY.bits.getD 0 [])).map ag) (([]:List Int) ++ (bY.bits.getD 0 [])).length az cP U U U U (aV aH) (aM aH) (bs aH) aH aH ae ae ?_)))⟩
 refine .nil ⟨U,(.one 12 U au (.cL ag ((([]:List Int) ++ (bY.bits.getD 0 [])) ++ ([(bY.bc.length:Int)]:List Int)) az cP U U U U (aV aH) (aM aH) (bs aH) aH aH ae ae ?_))⟩
 refine .nil ⟨U,(.one 13 U au (.vl (Y.qu (m:=0) cb U U bj om) (.nil ⟨U,(.one 14 U au (.sh (Sh.cO (d:=75) (o:=165) U U (aF om) ae) (.sh (Sh.bS (d:=75) (((([]:List Int) ++ (bY.bits.getD 0 [])) ++ ([(bY.bc.length:Int)]:List Int)).map ag) U fI (bN.map aE)) (.eH ((bY.bits.set 0 ((([]:List Int) ++ (bY.bits.getD 0 [])) ++ ([(bY.bc.length:Int)]:List Int))).map bG) eD U U U U U U U (aI (d:=[]) om) (aL U) (cY U) ?_))))⟩)))⟩
 exact .nil ⟨U,(.done au (Le.mk (.c (.c .nil)) (.c4 (.c .nil))))⟩
 refine .seq (.sh (Sh.j7 106 1000 0 U U U (aF om) (bN.map Gate.bx) ae U U U) (.sh (Sh.j7 106 1001 1 U U U (aF aH) (bN.map eb) ae U U U) (.sh (Sh.j7 106 1002 2 U U U (aF om) (bN.map eb) ae U U U) ?_)))
 have vh:¬ mb aK (⟨bY.bc,bY.bits.set 0 ((([]:List Int) ++ (bY.bits.getD 0 [])) ++ ([(bY.bc.length:Int)]:List Int)),bY.next⟩:gp):=Dx om
 have xt:wU (⟨bY.bc,bY.bits.set 0 ((([]:List Int) ++ (bY.bits.getD 0 [])) ++ ([(bY.bc.length:Int)]:List Int)),bY.next⟩:gp):=eS.Qc hf hP Cv Hz
 refine .le (aW:=⟨[(5,.ptr 105 0 0 0),(6,.ptr 106 0 0 0)],[(105,.cells [.v (.string aK.name),.fz 1 (aK.aa.map ag),.fz 6 (aK.cells.map Cell.row),.fz 1 (aK.ins.map ag),.fz 5 (aK.aA.map dW.row),.fz 3 (aK.streams.map b8.row),.fz 1 (aK.ba.map ag),.fz 1 (aK.data.map ag),vi aK.freeze,vi aK.done,.fz 1 (aK.bF.map ag)]),(106,.cells [.fz 3 (bY.bc.map Gate.row),.fz 1 ((bY.bits.set 0 ((([]:List Int) ++ (bY.bits.getD 0 [])) ++ ([(bY.bc.length:Int)]:List Int))).map bG),.fz 1 (bY.next.map bG)])]⟩) (Le.mk (.c (.c .nil)) (.c (.c .nil))) ?_
 refine .region (.vl (Y.zc er U U (aL U) U U) (.vl (Y.zc pU U U (aL U) U U) (.bm yk (eL (n:=aK) (m:=(⟨bY.bc,bY.bits.set 0 ((([]:List Int) ++ (bY.bits.getD 0 [])) ++ ([(bY.bc.length:Int)]:List Int)),bY.next⟩:gp)) hs om xt.1 xt.2 vh) U (.ai U U (.ai U U .nil)) ae U ?_)))
 refine .mv ?_
 refine .vl (Y.qo U U U) (.vl (Y.qo U U U) (.alloc 108 l8 U U ae ?_))
 refine .ao mR U U U U U U (aL U) U ?_
 refine .an ?_
 refine .nil (.le (aW:=⟨[(5,.ptr 105 0 0 0),(6,.ptr 106 0 0 0),(9,vi (if fg aK ≠ 0 then fg aK else 3))],[(105,.cells [.v (.string aK.name),.fz 1 (aK.aa.map ag),.fz 6 (aK.cells.map Cell.row),.fz 1 (aK.ins.map ag),.fz 5 (aK.aA.map dW.row),.fz 3 (aK.streams.map b8.row),.fz 1 (aK.ba.map ag),.fz 1 (aK.data.map ag),vi aK.freeze,vi aK.done,.fz 1 (aK.bF.map ag)]),(106,.cells [.fz 3 (bY.bc.map Gate.row),.fz 1 ((bY.bits.set 0 ((([]:List Int) ++ (bY.bits.getD 0 [])) ++ ([(bY.bc.length:Int)]:List Int))).map bG),.fz 1 (bY.next.map bG)])]⟩) (Le.mk (.c2 (.c .nil)) (.c (.c .nil))) (.sr (.fa mu ?_)))
 refine .ao fW U U U U U U (aL U) U (.nil (.le (aW:=⟨[(5,.ptr 105 0 0 0),(6,.ptr 106 0 0 0),(9,vi (if fg aK ≠ 0 then fg aK else 3))],[(105,.cells [.v (.string aK.name),.fz 1 (aK.aa.map ag),.fz 6 (aK.cells.map Cell.row),.fz 1 (aK.ins.map ag),.fz 5 (aK.aA.map dW.row),.fz 3 (aK.streams.map b8.row),.fz 1 (aK.ba.map ag),.fz 1 (aK.data.map ag),vi (-1),vi aK.done,.fz 1 (aK.bF.map ag)]),(106,.cells [.fz 3 (bY.bc.map Gate.row),.fz 1 ((bY.bits.set 0 ((([]:List Int) ++ (bY.bits.getD 0 [])) ++ ([(bY.bc.length:Int)]:List Int))).map bG),.fz 1 (bY.next.map bG)])]⟩) (Le.mk (.c2 (.c .nil)) (.c (.c .nil))) ?_))
 refine .sr (.vl (Y.zc er U U (aL U) U U) (.vl (Y.zc pU U U (aL U) U U) (.bm yk (eL (n:=(⟨aK.name,aK.aa,aK.cells,aK.ins,aK.aA,aK.streams,aK.ba,aK.data,-1,aK.done,aK.bF⟩:ab)) (m:=(⟨bY.bc,bY.bits.set 0 ((([]:List Int) ++ (bY.bits.getD 0 [])) ++ ([(bY.bc.length:Int)]:List Int)),bY.next⟩:gp)) (hs.fz _) (by show aK.aa.length + aK.ins.length <= _; omega) xt.1 xt.2 (fun h=>vh ⟨h.dw,h.bl,h.nl,h.p6⟩)) U (.ai U U (.ai U U .nil)) ae U ?_)))
 refine .mv ?_
 refine .vl (Y.qo U U U) (.vl (Y.qo U U U) (.alloc 110 l8 U U ae ?_))
 refine .ao mR U U U U U U (aL U) U ?_
 refine .an (.nil (.sr ?_))
 refine .mv ?_
 refine .vl (Y.qm U U) (.mv ?_)
 refine .aG (d:=113) U (fun vc=>?_) (fun vc=>?_)
 refine .gw 113 (Y.zh U U) (.gw 113 (Y.qm U U) (.pk ?_))
 refine .an (.nil (.ret ?_))
 exact .rb rfl (decide_eq_true (by split; exact nJ rfl; rfl))
 exact absurd (by rw [if_neg (fun h=>h (mS hf MC MD))]) vc
end Go.Proofs.Ytlimckldnjmabaa
