/- Walks of the builder with inputs. -/
import Derived.Test.YtlimckldnjmabaaSynx0
import Derived.Test.YtlimckldnjmabaaSynx1
import Derived.Test.YtlimckldnjmabaaSynx2
import Derived.Test.YtlimckldnjmabaaAWx2
set_option linter.unusedSimpArgs false
set_option linter.unusedVariables false
set_option linter.unusedSectionVars false
set_option maxRecDepth 4000
set_option maxHeartbeats 8000000
namespace Go.Proofs.Ytlimckldnjmabaa
open Go Go.AW Go.Proofs
theorem qY{nm:ByteArray}{ws is:List Int}{cs:List Cell}{fz dn:Int}(Mz:ws.length <= 1048576)(tE:cs.length <= 1048576){w:Int}:aw Try.prog 72 [.ptr 0 0 0 0,vi w] [.cells [.v (.string nm),.aL 1 1 0 ws.length,.aL 2 6 0 cs.length,.aL 3 1 0 is.length,.v (.slice none 0 0),.v (.slice none 0 0),.v (.slice none 0 0),.v (.slice none 0 0),vi fz,vi dn,.v (.slice none 0 0)],.rows 1 (ws.map ah),.rows 6 (cs.map Cell.row),.rows 1 (is.map ah)] [0] (fun r o=>r = (vi ws.length) /\ o = [.cells [.v (.string nm),.aL 1 1 0 ((ws ++ [w]).length),.aL 2 6 0 cs.length,.aL 3 1 0 is.length,.v (.slice none 0 0),.v (.slice none 0 0),.v (.slice none 0 0),.v (.slice none 0 0),vi fz,vi dn,.v (.slice none 0 0)],.rows 1 ((ws ++ [w]).map ah),.rows 6 (cs.map Cell.row),.rows 1 (is.map ah)]):=by
 refine aw.of Try.func72 U U U (n:=24) ae (aH U) (.sr (.an (.nil (.sr ?_))))
 refine .mv ?_
 refine .mv ?_
 refine .vl (Y.zm U U) (.fa jg ?_)
 refine .fa bO ?_
 refine .ld bt ?_
 refine .mv ?_
 refine .buildSlice (([w]:List Int).map ah) a7 dD U U U U U (aq (s:=1) (f:=ah) (fun _=>U)) U U U ae ?_
 refine .cL ah (ws ++ ([w]:List Int)) a7 dD U U U U (bg aG) (aR aG) (bz aG) aG aG ae ae (.vl (Y.zm U U) (.fa jg ?_))
 refine .fa bO ?_
 refine .ai fJ U U U U U U (aH U) U (.nil (.sr (.mv ?_)))
 refine .vl (Y.zm U U) (.fa jg ?_)
 refine .fa bO ?_
 refine .ld bt ?_
 refine .vl (Y.qx (n:=(ws ++ ([w]:List Int)).length) a7 U U) (.vl (Y.wc U U aG) (.an (.nil (.ret ?_))))
 exact ⟨_,_,U,U,Em (fun (z0:Int)=>X.v (.int .i64 z0)) (by simp:(((ws ++ ([w]:List Int)).length:Nat):Int) - 1 = (ws.length:Int)),U⟩
theorem pt{nm:ByteArray}{ws is:List Int}{cs:List Cell}{fz dn:Int}(Mz:ws.length <= 1048576)(tE:cs.length <= 1048576){c:Cell}(hc:c.args.length <= 17592186043904):aw Try.prog 73 [.ptr 0 0 0 0,.agg (Cell.row c)] [.cells [.v (.string nm),.aL 1 1 0 ws.length,.aL 2 6 0 cs.length,.aL 3 1 0 is.length,.v (.slice none 0 0),.v (.slice none 0 0),.v (.slice none 0 0),.v (.slice none 0 0),vi fz,vi dn,.v (.slice none 0 0)],.rows 1 (ws.map ah),.rows 6 (cs.map Cell.row),.rows 1 (is.map ah)] [0] (fun r o=>r = .tup [] /\ o = [.cells [.v (.string nm),.aL 1 1 0 ws.length,.aL 2 6 0 ((cs ++ [c]).length),.aL 3 1 0 is.length,.v (.slice none 0 0),.v (.slice none 0 0),.v (.slice none 0 0),.v (.slice none 0 0),vi fz,vi dn,.v (.slice none 0 0)],.rows 1 (ws.map ah),.rows 6 ((cs ++ [c]).map Cell.row),.rows 1 (is.map ah)]):=by
 refine aw.of Try.func73 U U U (n:=20) ae (aH U) (.sr (.box 103 U U U U U ae ?_))
 refine .nil (.sr (.fa bU ?_))
 refine .ld bt ?_
 refine .aZ EJ (na (l:=c.args) (om)) U (.aj U U .nil) ae U ?_
 refine .fa bU ?_
 refine .sh (Sh.cG (d:=6) (c.args.map ah) U iJ (cC.map aI)) (.ai fJ U U U U U U (aH U) U (.nil (.dZ U (.blind 0 U au (ax.move U U) ae (.blind 1 U au (ax.move U U) ae ?_)))))
 refine .blind 2 U au (ax.nilCheck U U) ae (.blind 3 U au (ax.fieldAddr jg U U) ae (.blind 4 U au (ax.fieldAddr bX U U) ae ?_))
 refine .two 5 6 U U au ?_ ?_
 refine .ld gk ?_
 refine .nil ⟨U,(.bP (n:=6) [6] [7,8,9,10,11,12] 7 U au (.cn 6 U (Y.zb fA U U (aH U) U U) (.nil (.one 7 U au (.buildSlice (([c]:List Cell).map Cell.row) dV ez U U U U U (aq (s:=6) (f:=Cell.row) (fun _=>U)) U U U ae ?_)))))⟩
 refine .nil ⟨U,(.one 8 U au (.cL Cell.row (cs ++ ([c]:List Cell)) dV ez U U U U (bg aG) (aR aG) (bz aG) aG aG ae ae ?_))⟩
 refine .nil ⟨U,(.bP (n:=1) [9,10,11] [12] 12 U au (.cn 9 U (Y.zm U U) (.cn 10 U (Y.qp jg U U) (.cn 11 U (Y.qp bX U U) (.nil (.one 12 U au (.ai tJ U U U U U U (aH U) U ?_)))))))⟩
 refine .nil ⟨U,(.done au ⟨_,_,U,U,U,U⟩)⟩
 refine .vl (Y.zb fA U U (aH U) U U) (.nil ⟨U,(.two 5 7 U U au ?_ ?_)⟩)
 refine .ld gk ?_
 refine .nil ⟨U,(.one 7 U au (.buildSlice (([c]:List Cell).map Cell.row) dV ez U U U U U (aq (s:=6) (f:=Cell.row) (fun _=>U)) U U U ae ?_))⟩
 refine .nil ⟨U,(.one 8 U au (.cL Cell.row (cs ++ ([c]:List Cell)) dV ez U U U U (bg aG) (aR aG) (bz aG) aG aG ae ae ?_))⟩
 refine .nil ⟨U,(.bP (n:=1) [9,10,11] [12] 12 U au (.cn 9 U (Y.zm U U) (.cn 10 U (Y.qp jg U U) (.cn 11 U (Y.qp bX U U) (.nil (.one 12 U au (.ai tJ U U U U U U (aH U) U ?_)))))))⟩
 refine .nil ⟨U,(.done au ⟨_,_,U,U,U,U⟩)⟩
 refine .buildSlice (([c]:List Cell).map Cell.row) dV ez U U U U U (aq (s:=6) (f:=Cell.row) (fun _=>U)) U U U ae ?_
 refine .nil ⟨U,(.bP (n:=5) [5] [8,9,10,11,12] 8 U au (.cn 5 U (Y.za gk U U U U) (.nil (.one 8 U au (.cL Cell.row (cs ++ ([c]:List Cell)) dV ez U U U U (bg aG) (aR aG) (bz aG) aG aG ae ae ?_)))))⟩
 refine .nil ⟨U,(.bP (n:=1) [9,10,11] [12] 12 U au (.cn 9 U (Y.zm U U) (.cn 10 U (Y.qp jg U U) (.cn 11 U (Y.qp bX U U) (.nil (.one 12 U au (.ai tJ U U U U U U (aH U) U ?_)))))))⟩
 refine .nil ⟨U,(.done au ⟨_,_,U,U,U,U⟩)⟩
theorem yK{nm:ByteArray}{ws is:List Int}{cs:List Cell}{fz dn:Int}(Mz:ws.length <= 1048000)(tE:cs.length <= 1048000){w:Int}{x:Nat}(hx:x < 18446744073709551616):aw Try.prog 76 [.ptr 0 0 0 0,vi w,.v (.int .u64 (x:Int))] [.cells [.v (.string nm),.aL 1 1 0 ws.length,.aL 2 6 0 cs.length,.aL 3 1 0 is.length,.v (.slice none 0 0),.v (.slice none 0 0),.v (.slice none 0 0),.v (.slice none 0 0),vi fz,vi dn,.v (.slice none 0 0)],.rows 1 (ws.map ah),.rows 6 (cs.map Cell.row),.rows 1 (is.map ah)] [0] (fun r o=>r = (vi ws.length) /\ o = [.cells [.v (.string nm),.aL 1 1 0 ((ws ++ [w]).length),.aL 2 6 0 ((cs ++ [(⟨1,0,(ws.length:Int),[],gK w x,0⟩:Cell)]).length),.aL 3 1 0 is.length,.v (.slice none 0 0),.v (.slice none 0 0),.v (.slice none 0 0),.v (.slice none 0 0),vi fz,vi dn,.v (.slice none 0 0)],.rows 1 ((ws ++ [w]).map ah),.rows 6 ((cs ++ [(⟨1,0,(ws.length:Int),[],gK w x,0⟩:Cell)]).map Cell.row),.rows 1 (is.map ah)]):=by
 refine aw.of Try.func76 U U U (n:=19) ae (aH U) (.sr (.an (.nil (.sr ?_))))
 refine .mv ?_
 refine .mv ?_
 refine .bw [0,1,2,3] [] KT (qY (w:=w) (ws:=ws) (cs:=cs) (is:=is) (nm:=nm) (fz:=fz) (dn:=dn) om om) U (.named U U (.aj U U .nil)) ⟨U,U,U,U,trivial⟩ U ae (fun _ h=>by cases h) (fun _ h=>by cases h) ae ae ?_
 rintro r aJ ⟨rfl,rfl⟩ _
 refine ⟨⟨rfl,(by intro ob aW; simp only [List.mem_cons,List.not_mem_nil,or_false] at aW; rcases aW with rfl | rfl | rfl | rfl <;> rfl),.inl rfl⟩,(.an (.nil (.sr ?_)))⟩
 refine .mv ?_
 refine .mv ?_
 refine .mv ?_
 refine .mv ?_
 refine .aZ uD (km (w:=w) (x:=x) (om)) U (.aj U U (.aj U U .nil)) ae U ?_
 refine .vl (Y.qh vB ez U U U) (.sh (Sh.Ev (d:=16) 1 3 U U) (.bw [0,1,2,3] [] KU (pt (c:=(⟨1,0,(((ws).length:Nat):Int),([]:List Int),gK w x,0⟩:Cell)) (ws:=ws ++ [w]) (cs:=cs) (is:=is) (nm:=nm) (fz:=fz) (dn:=dn) aG aG (by simp)) U (.named U U (.aj U U .nil)) ⟨U,U,U,U,trivial⟩ U ae (fun _ h=>by cases h) (fun _ h=>by cases h) ae ae ?_))
 rintro r aJ ⟨rfl,rfl⟩ _
 refine ⟨⟨rfl,(by intro ob aW; simp only [List.mem_cons,List.not_mem_nil,or_false] at aW; rcases aW with rfl | rfl | rfl | rfl <;> rfl),.inl rfl⟩,(.nil (.sr (.mv ?_)))⟩
 refine .an (.nil (.ret ?_))
 exact ⟨_,_,U,U,U,U⟩
theorem Dm{nm:ByteArray}{ws is:List Int}{cs:List Cell}{fz dn:Int}(Mz:ws.length <= 1048000)(tE:cs.length <= 1048000){op w:Int}{args:List Int}(hx:args.length <= 17592186043904):aw Try.prog 75 [.ptr 0 0 0 0,vi op,vi w,.fz 1 (args.map ah)] [.cells [.v (.string nm),.aL 1 1 0 ws.length,.aL 2 6 0 cs.length,.aL 3 1 0 is.length,.v (.slice none 0 0),.v (.slice none 0 0),.v (.slice none 0 0),.v (.slice none 0 0),vi fz,vi dn,.v (.slice none 0 0)],.rows 1 (ws.map ah),.rows 6 (cs.map Cell.row),.rows 1 (is.map ah)] [0] (fun r o=>r = (vi ws.length) /\ o = [.cells [.v (.string nm),.aL 1 1 0 ((ws ++ [w]).length),.aL 2 6 0 ((cs ++ [(⟨2,op,(ws.length:Int),args,0,0⟩:Cell)]).length),.aL 3 1 0 is.length,.v (.slice none 0 0),.v (.slice none 0 0),.v (.slice none 0 0),.v (.slice none 0 0),vi fz,vi dn,.v (.slice none 0 0)],.rows 1 ((ws ++ [w]).map ah),.rows 6 ((cs ++ [(⟨2,op,(ws.length:Int),args,0,0⟩:Cell)]).map Cell.row),.rows 1 (is.map ah)]):=by
 refine aw.of Try.func75 U U U (n:=20) ae (aH U) (.sr (.an (.nil (.sr ?_))))
 refine .mv ?_
 refine .mv ?_
 refine .bw [0,1,2,3] [] KT (qY (w:=w) (ws:=ws) (cs:=cs) (is:=is) (nm:=nm) (fz:=fz) (dn:=dn) om om) U (.named U U (.aj U U .nil)) ⟨U,U,U,U,trivial⟩ U ae (fun _ h=>by cases h) (fun _ h=>by cases h) ae ae ?_
 rintro r aJ ⟨rfl,rfl⟩ _
 refine ⟨⟨rfl,(by intro ob aW; simp only [List.mem_cons,List.not_mem_nil,or_false] at aW; rcases aW with rfl | rfl | rfl | rfl <;> rfl),.inl rfl⟩,(.an (.nil (.sr ?_)))⟩
 refine .mv ?_
 refine .mv ?_
 refine .mv ?_
 refine .mv ?_
 refine .vl (Y.qh vB ez U U U) (.bw [0,1,2,3] [] KU (pt (c:=(⟨2,op,(((ws).length:Nat):Int),args,0,0⟩:Cell)) (ws:=ws ++ [w]) (cs:=cs) (is:=is) (nm:=nm) (fz:=fz) (dn:=dn) aG aG aG) U (.named U U (.aj U U .nil)) ⟨U,U,U,U,trivial⟩ U ae (fun _ h=>by cases h) (fun _ h=>by cases h) ae ae ?_)
 rintro r aJ ⟨rfl,rfl⟩ _
 refine ⟨⟨rfl,(by intro ob aW; simp only [List.mem_cons,List.not_mem_nil,or_false] at aW; rcases aW with rfl | rfl | rfl | rfl <;> rfl),.inl rfl⟩,(.nil (.sr (.mv ?_)))⟩
 refine .an (.nil (.ret ?_))
 exact ⟨_,_,U,U,U,U⟩
open Go Go.AW Go.Proofs
theorem IZ{op x:Int}(hp:Plain op)(h0:1 <= x)(h1:x <= 64):aw Try.prog 124 [vi op,vi x] [] [] (fun r o=>∃ c:Int,r = .tup [.agg [vi 0,vi x,vi (aK op x.toNat),vi 0,vi 0,vi c],vi 0] /\ o = []):=by
 refine aw.of Try.func124 U U U (n:=184) ae (aH U) ?_
 have Kf:=hp; unfold Plain GX Seq Unary at Kf; have xC:=vj (n:=x.toNat) om; have Ja:=vj (n:=(x + 1).toNat) om; have hle:(x + 1).toNat = x.toNat + 1:=om; have Vc:=ue h0 h1 xC; have Vd:=ue h0 h1 Ja
 refine .sr (.alloc 104 iE U U ae ?_)
 refine .an ?_
 refine .nil (.seq (.sr (.mv ?_)))
 refine .vl (Y.qz U U) (.mv ?_)
 refine .aC (d:=12) U (fun Ci=>?_) (fun Ci=>?_)
 refine .gz 12 (.gz 12 (.pk ?_))
 refine .nil (.aO U (.sr (.vl (Y.qh mI iE U U U) (.ai bK U U U U U U (aH U) U ?_))))
 refine .an (.nil (.ret ?_))
 first | (exfalso; omega) | exact ⟨_,_,rfl,rfl,0,by rw [show aK op x.toNat = 0 by (try rw [hle]); unfold aK; (repeat' split) <;> omega]; rfl,rfl⟩
 refine .gw 12 (Y.zh U U) (.gw 12 (Y.qq U U) (.pk ?_))
 refine .nil (.aA U (fun ua=>?_) (fun ua=>?_))
 refine .sr (.vl (Y.qh mI iE U U U) (.ai bK U U U U U U (aH U) U ?_))
 refine .an (.nil (.ret ?_))
 first | (exfalso; omega) | exact ⟨_,_,rfl,rfl,0,by rw [show aK op x.toNat = 0 by (try rw [hle]); unfold aK; (repeat' split) <;> omega]; rfl,rfl⟩
 refine .skip (.seq (.sr (.mv ?_)))
 refine .vl (Y.zc U U) (.mv ?_)
 refine .aC (d:=19) U (fun vD=>?_) (fun vD=>?_)
 refine .gz 19 (.gz 19 (.pk ?_))
 refine .nil (.aO U (.sr (.vl (Y.qh mI iE U U U) (.ai bK U U U U U U (aH U) U ?_))))
 refine .an (.nil (.ret ?_))
 first | (exfalso; omega) | exact ⟨_,_,rfl,rfl,0,by rw [show aK op x.toNat = 0 by (try rw [hle]); unfold aK; (repeat' split) <;> omega]; rfl,rfl⟩
 refine .gw 19 (Y.zh U U) (.gw 19 (Y.qr U U) (.pk ?_))
 refine .nil (.aA U (fun pa=>?_) (fun pa=>?_))
 refine .sr (.vl (Y.qh mI iE U U U) (.ai bK U U U U U U (aH U) U ?_))
 refine .an (.nil (.ret ?_))
 first | (exfalso; omega) | exact ⟨_,_,rfl,rfl,0,by rw [show aK op x.toNat = 0 by (try rw [hle]); unfold aK; (repeat' split) <;> omega]; rfl,rfl⟩
 refine .skip (.sr (.mv ?_))
 refine .mv ?_
 refine .aZ yc (kQ (x:=x) (om) (om)) U (.aj U U .nil) ae U ?_
 refine .mv ?_
 refine .vl (Y.qb U U aG) (.aZ yc (kQ (x:=(x + 1)) (om) (om)) U (.aj U U .nil) ae U ?_)
 refine .an ?_
 refine .an ?_
 refine .an (.nil (.sr ?_))
 refine .mv ?_
 refine .vl (Y.qh mI iE U U U) (.alloc 109 iE U U ae (.ai bK U U U U U U (aH U) U ?_))
 refine .nil (.seq (.sr (.mv ?_)))
 refine .nil (.block (.seq (.sr (.vl (Y.ql U U) (.an (.nil ?_))))))
 refine .bm U (fun Da=>?_) (fun Da=>?_)
 refine .skip (.aO U (.region (.mv ?_)))
 refine .fa cN ?_
 refine .ai dS U U U U U U (aH U) U ?_
 refine .fa bW ?_
 refine .ai dS U U U U U U (aH U) U (.nil (.sr (.vl (Y.zb dL U U (aH U) U U) (.ai bK U U U U U U (aH U) U ?_))))
 refine .an (.nil (.ret ?_))
 first | (exfalso; omega) | exact ⟨_,_,rfl,rfl,x,by rw [show aK op x.toNat = 20 by (try rw [hle]); unfold aK; (repeat' split) <;> omega]; rfl,rfl⟩
 refine .sr (.vl (Y.ql U U) (.an (.nil ?_)))
 refine .bm U (fun Da=>?_) (fun Da=>?_)
 refine .skip (.aO U (.region (.mv ?_)))
 refine .fa cN ?_
 refine .ai dS U U U U U U (aH U) U ?_
 refine .fa bW ?_
 refine .ai dS U U U U U U (aH U) U (.nil (.sr (.vl (Y.zb dL U U (aH U) U U) (.ai bK U U U U U U (aH U) U ?_))))
 refine .an (.nil (.ret ?_))
 first | (exfalso; omega) | exact ⟨_,_,rfl,rfl,x,by rw [show aK op x.toNat = 20 by (try rw [hle]); unfold aK; (repeat' split) <;> omega]; rfl,rfl⟩
 refine .region (.vl (Y.ql U U) (.an (.nil ?_)))
 refine .bm U (fun Da=>?_) (fun Da=>?_)
 refine .region (.mv ?_)
 refine .fa cN ?_
 refine .ai dS U U U U U U (aH U) U ?_
 refine .fa bW ?_
 refine .ai dS U U U U U U (aH U) U (.nil (.sr (.vl (Y.zb dL U U (aH U) U U) (.ai bK U U U U U U (aH U) U ?_))))
 refine .an (.nil (.ret ?_))
 first | (exfalso; omega) | exact ⟨_,_,rfl,rfl,x,by rw [show aK op x.toNat = 20 by (try rw [hle]); unfold aK; (repeat' split) <;> omega]; rfl,rfl⟩
 refine .sr (.vl (Y.ql U U) (.an (.nil ?_)))
 refine .aA U (fun AK=>?_) (fun AK=>?_)
 refine .region (.mv ?_)
 refine .vl (Y.zj U U om) (.vl (Y.qb U U aG) (.mv ?_))
 refine .vl (Y.zj U U om) (.mv ?_)
 refine .vl (Y.zj U U om) (.mv ?_)
 refine .vl (Y.zj U U om) (.vl (Y.qb U U aG) (.fa cN ?_))
 refine .ai dS U U U U U U (aH U) U ?_
 refine .fa bW ?_
 refine .ai dS U U U U U U (aH U) U (.nil (.sr (.vl (Y.zb dL U U (aH U) U U) (.ai bK U U U U U U (aH U) U ?_))))
 refine .an (.nil (.ret ?_))
 first | (exfalso; omega) | exact ⟨_,_,rfl,rfl,(3 * x) + ((3 * x) * ((cF x.toNat:Nat):Int)),by rw [show aK op x.toNat = 40 + (40 * ((cF x.toNat:Nat):Int)) by (try rw [hle]); unfold aK; (repeat' split) <;> omega]; rfl,rfl⟩
 refine .sr (.vl (Y.ql U U) (.an (.nil ?_)))
 refine .aA U (fun Hh=>?_) (fun Hh=>?_)
 refine .region (.mv ?_)
 refine .vl (Y.zj U U om) (.vl (Y.qb U U aG) (.mv ?_))
 refine .vl (Y.zj U U om) (.mv ?_)
 refine .vl (Y.zj U U om) (.mv ?_)
 refine .vl (Y.zj U U om) (.vl (Y.qb U U aG) (.fa cN ?_))
 refine .ai dS U U U U U U (aH U) U ?_
 refine .fa bW ?_
 refine .ai dS U U U U U U (aH U) U (.nil (.sr (.vl (Y.zb dL U U (aH U) U U) (.ai bK U U U U U U (aH U) U ?_))))
 refine .an (.nil (.ret ?_))
 first | (exfalso; omega) | exact ⟨_,_,rfl,rfl,(4 * x) + ((3 * x) * ((cF x.toNat:Nat):Int)),by rw [show aK op x.toNat = 50 + (40 * ((cF x.toNat:Nat):Int)) by (try rw [hle]); unfold aK; (repeat' split) <;> omega]; rfl,rfl⟩
 refine .seq (.sr (.vl (Y.ql U U) (.an (.nil ?_))))
 refine .bm U (fun DH=>?_) (fun DH=>?_)
 refine .skip (.aO U (.region (.mv ?_)))
 refine .vl (Y.zj U U om) (.vl (Y.qb U U aG) (.mv ?_))
 refine .vl (Y.zj U U om) (.fa cN ?_)
 refine .ai dS U U U U U U (aH U) U ?_
 refine .fa bW ?_
 refine .ai dS U U U U U U (aH U) U (.nil (.sr (.vl (Y.zb dL U U (aH U) U U) (.ai bK U U U U U U (aH U) U ?_))))
 refine .an (.nil (.ret ?_))
 first | (exfalso; omega) | exact ⟨_,_,rfl,rfl,2 * x,by rw [show aK op x.toNat = 30 + (20 * ((cF x.toNat:Nat):Int)) by (try rw [hle]); unfold aK; (repeat' split) <;> omega]; rfl,rfl⟩
 refine .region (.vl (Y.ql U U) (.an (.nil ?_)))
 refine .bm U (fun DH=>?_) (fun DH=>?_)
 refine .region (.mv ?_)
 refine .vl (Y.zj U U om) (.vl (Y.qb U U aG) (.mv ?_))
 refine .vl (Y.zj U U om) (.fa cN ?_)
 refine .ai dS U U U U U U (aH U) U ?_
 refine .fa bW ?_
 refine .ai dS U U U U U U (aH U) U (.nil (.sr (.vl (Y.zb dL U U (aH U) U U) (.ai bK U U U U U U (aH U) U ?_))))
 refine .an (.nil (.ret ?_))
 first | (exfalso; omega) | exact ⟨_,_,rfl,rfl,2 * x,by rw [show aK op x.toNat = 30 + (20 * ((cF x.toNat:Nat):Int)) by (try rw [hle]); unfold aK; (repeat' split) <;> omega]; rfl,rfl⟩
 refine .seq (.sr (.vl (Y.ql U U) (.an (.nil ?_))))
 refine .bm U (fun AB=>?_) (fun AB=>?_)
 refine .skip (.aO U (.region (.mv ?_)))
 refine .vl (Y.zj U U om) (.vl (Y.qb U U aG) (.mv ?_))
 refine .vl (Y.zj U U om) (.mv ?_)
 refine .vl (Y.zj U U om) (.mv ?_)
 refine .vl (Y.zj U U om) (.vl (Y.qb U U aG) (.fa cN ?_))
 refine .ai dS U U U U U U (aH U) U ?_
 refine .fa bW ?_
 refine .ai dS U U U U U U (aH U) U (.nil (.sr (.vl (Y.zb dL U U (aH U) U U) (.ai bK U U U U U U (aH U) U ?_))))
 refine .an (.nil (.ret ?_))
 first | (exfalso; omega) | exact ⟨_,_,rfl,rfl,(4 * x) + ((3 * x) * ((cF (x + 1).toNat:Nat):Int)),by rw [show aK op x.toNat = 40 + (40 * ((cF (x + 1).toNat:Nat):Int)) by (try rw [hle]); unfold aK; (repeat' split) <;> omega]; rfl,rfl⟩
 refine .region (.vl (Y.ql U U) (.an (.nil ?_)))
 refine .bm U (fun AB=>?_) (fun AB=>?_)
 refine .region (.mv ?_)
 refine .vl (Y.zj U U om) (.vl (Y.qb U U aG) (.mv ?_))
 refine .vl (Y.zj U U om) (.mv ?_)
 refine .vl (Y.zj U U om) (.mv ?_)
 refine .vl (Y.zj U U om) (.vl (Y.qb U U aG) (.fa cN ?_))
 refine .ai dS U U U U U U (aH U) U ?_
 refine .fa bW ?_
 refine .ai dS U U U U U U (aH U) U (.nil (.sr (.vl (Y.zb dL U U (aH U) U U) (.ai bK U U U U U U (aH U) U ?_))))
 refine .an (.nil (.ret ?_))
 first | (exfalso; omega) | exact ⟨_,_,rfl,rfl,(4 * x) + ((3 * x) * ((cF (x + 1).toNat:Nat):Int)),by rw [show aK op x.toNat = 40 + (40 * ((cF (x + 1).toNat:Nat):Int)) by (try rw [hle]); unfold aK; (repeat' split) <;> omega]; rfl,rfl⟩
 refine .seq (.sr (.vl (Y.ql U U) (.an (.nil ?_))))
 refine .bm U (fun FY=>?_) (fun FY=>?_)
 refine .skip (.aO U (.region (.mv ?_)))
 refine .vl (Y.zj U U om) (.vl (Y.qb U U aG) (.mv ?_))
 refine .vl (Y.zj U U om) (.mv ?_)
 refine .vl (Y.zj U U om) (.mv ?_)
 refine .vl (Y.zj U U om) (.vl (Y.qb U U aG) (.vl (Y.qb U U aG) (.fa cN ?_)))
 refine .ai dS U U U U U U (aH U) U ?_
 refine .fa bW ?_
 refine .ai dS U U U U U U (aH U) U (.nil (.sr (.vl (Y.zb dL U U (aH U) U U) (.ai bK U U U U U U (aH U) U ?_))))
 refine .an (.nil (.ret ?_))
 first | (exfalso; omega) | exact ⟨_,_,rfl,rfl,((4 * x) + ((3 * x) * ((cF (x + 1).toNat:Nat):Int))) + 2,by rw [show aK op x.toNat = 50 + (40 * ((cF (x + 1).toNat:Nat):Int)) by (try rw [hle]); unfold aK; (repeat' split) <;> omega]; rfl,rfl⟩
 refine .region (.vl (Y.ql U U) (.an (.nil ?_)))
 refine .bm U (fun FY=>?_) (fun FY=>?_)
 refine .region (.mv ?_)
 refine .vl (Y.zj U U om) (.vl (Y.qb U U aG) (.mv ?_))
 refine .vl (Y.zj U U om) (.mv ?_)
 refine .vl (Y.zj U U om) (.mv ?_)
 refine .vl (Y.zj U U om) (.vl (Y.qb U U aG) (.vl (Y.qb U U aG) (.fa cN ?_)))
 refine .ai dS U U U U U U (aH U) U ?_
 refine .fa bW ?_
 refine .ai dS U U U U U U (aH U) U (.nil (.sr (.vl (Y.zb dL U U (aH U) U U) (.ai bK U U U U U U (aH U) U ?_))))
 refine .an (.nil (.ret ?_))
 first | (exfalso; omega) | exact ⟨_,_,rfl,rfl,((4 * x) + ((3 * x) * ((cF (x + 1).toNat:Nat):Int))) + 2,by rw [show aK op x.toNat = 50 + (40 * ((cF (x + 1).toNat:Nat):Int)) by (try rw [hle]); unfold aK; (repeat' split) <;> omega]; rfl,rfl⟩
 refine .sr (.vl (Y.ql U U) (.an (.nil ?_)))
 refine .aA U (fun Ma=>?_) (fun Ma=>?_)
 refine .region (.mv ?_)
 refine .vl (Y.zj U U om) (.vl (Y.qb U U aG) (.fa cN ?_))
 refine .ai dS U U U U U U (aH U) U ?_
 refine .fa bW ?_
 refine .ai dS U U U U U U (aH U) U (.nil (.sr (.vl (Y.zb dL U U (aH U) U U) (.ai bK U U U U U U (aH U) U ?_))))
 refine .an (.nil (.ret ?_))
 first | (exfalso; omega) | exact ⟨_,_,rfl,rfl,(3 * x) + 1,by rw [show aK op x.toNat = 50 by (try rw [hle]); unfold aK; (repeat' split) <;> omega]; rfl,rfl⟩
 refine .seq (.sr (.vl (Y.ql U U) (.an (.nil ?_))))
 refine .bm U (fun vm=>?_) (fun vm=>?_)
 refine .skip (.aO U (.region (.mv ?_)))
 refine .vl (Y.zj U U om) (.vl (Y.qb U U aG) (.mv ?_))
 refine .vl (Y.zj U U om) (.mv ?_)
 refine .vl (Y.zj U U om) (.mv ?_)
 refine .vl (Y.zj U U om) (.vl (Y.qb U U aG) (.fa cN ?_))
 refine .ai dS U U U U U U (aH U) U ?_
 refine .fa bW ?_
 refine .ai dS U U U U U U (aH U) U (.nil (.sr (.vl (Y.zb dL U U (aH U) U U) (.ai bK U U U U U U (aH U) U ?_))))
 refine .an (.nil (.ret ?_))
 first | (exfalso; omega) | exact ⟨_,_,rfl,rfl,(2 * x) + ((3 * x) * ((cF x.toNat:Nat):Int)),by rw [show aK op x.toNat = 30 + (40 * ((cF x.toNat:Nat):Int)) by (try rw [hle]); unfold aK; (repeat' split) <;> omega]; rfl,rfl⟩
 refine .region (.vl (Y.ql U U) (.an (.nil ?_)))
 refine .bm U (fun vm=>?_) (fun vm=>?_)
 refine .region (.mv ?_)
 refine .vl (Y.zj U U om) (.vl (Y.qb U U aG) (.mv ?_))
 refine .vl (Y.zj U U om) (.mv ?_)
 refine .vl (Y.zj U U om) (.mv ?_)
 refine .vl (Y.zj U U om) (.vl (Y.qb U U aG) (.fa cN ?_))
 refine .ai dS U U U U U U (aH U) U ?_
 refine .fa bW ?_
 refine .ai dS U U U U U U (aH U) U (.nil (.sr (.vl (Y.zb dL U U (aH U) U U) (.ai bK U U U U U U (aH U) U ?_))))
 refine .an (.nil (.ret ?_))
 first | (exfalso; omega) | exact ⟨_,_,rfl,rfl,(2 * x) + ((3 * x) * ((cF x.toNat:Nat):Int)),by rw [show aK op x.toNat = 30 + (40 * ((cF x.toNat:Nat):Int)) by (try rw [hle]); unfold aK; (repeat' split) <;> omega]; rfl,rfl⟩
 refine .sr (.vl (Y.ql U U) (.an (.nil ?_)))
 refine .aA U (fun pg=>?_) (fun pg=>?_)
 refine .region (.mv ?_)
 refine .vl (Y.zj U U om) (.vl (Y.qb U U aG) (.mv ?_))
 refine .vl (Y.zj U U om) (.mv ?_)
 refine .vl (Y.zj U U om) (.mv ?_)
 refine .vl (Y.zj U U om) (.vl (Y.qb U U aG) (.fa cN ?_))
 refine .ai dS U U U U U U (aH U) U ?_
 refine .fa bW ?_
 refine .ai dS U U U U U U (aH U) U (.nil (.sr (.vl (Y.zb dL U U (aH U) U U) (.ai bK U U U U U U (aH U) U ?_))))
 refine .an (.nil (.ret ?_))
 first | (exfalso; omega) | exact ⟨_,_,rfl,rfl,(4 * x) + ((3 * x) * ((cF x.toNat:Nat):Int)),by rw [show aK op x.toNat = 50 + (40 * ((cF x.toNat:Nat):Int)) by (try rw [hle]); unfold aK; (repeat' split) <;> omega]; rfl,rfl⟩
 refine .sr (.vl (Y.ql U U) (.an (.nil ?_)))
 refine .aA U (fun AP=>?_) (fun AP=>?_)
 refine .region (.mv ?_)
 refine .vl (Y.qb U U aG) (.vl (Y.zq U U om) (.vl (Y.qb U U aG) (.mv ?_)))
 refine .vl (Y.zj U U om) (.mv ?_)
 refine .vl (Y.zj U U om) (.fa jf ?_)
 refine .ai dS U U U U U U (aH U) U ?_
 refine .fa ky ?_
 refine .ai dS U U U U U U (aH U) U ?_
 refine .fa kz ?_
 refine .ai dS U U U U U U (aH U) U ?_
 refine .fa bW ?_
 refine .ai dS U U U U U U (aH U) U (.nil (.sr (.vl (Y.zb dL U U (aH U) U U) (.ai bK U U U U U U (aH U) U ?_))))
 refine .an (.nil (.ret ?_))
 first | (exfalso; omega) | exact ⟨_,_,rfl,rfl,(6 * x) * x,by rw [show aK op x.toNat = 0 by (try rw [hle]); unfold aK; (repeat' split) <;> omega]; rfl,rfl⟩
 refine .seq (.sr (.vl (Y.ql U U) (.an (.nil ?_))))
 refine .bm U (fun kr=>?_) (fun kr=>?_)
 refine .skip (.aO U (.sr (.mv ?_)))
 refine .vl (Y.qb U U aG) (.vl (Y.wc U U aG) (.fa jf ?_))
 refine .ai dS U U U U U U (aH U) U (.nil (.region (.mv ?_)))
 refine .vl (Y.qb U U aG) (.vl (Y.zq U U om) (.vl (Y.qb U U aG) (.mv ?_)))
 refine .vl (Y.qb U U aG) (.vl (Y.zq U U om) (.vl (Y.qb U U aG) (.mv ?_)))
 refine .vl (Y.zj U U om) (.mv ?_)
 refine .vl (Y.zj U U om) (.fa ky ?_)
 refine .ai dS U U U U U U (aH U) U ?_
 refine .fa kz ?_
 refine .ai dS U U U U U U (aH U) U ?_
 refine .fa bW ?_
 refine .ai dS U U U U U U (aH U) U (.nil (.sr (.vl (Y.zb dL U U (aH U) U U) (.ai bK U U U U U U (aH U) U ?_))))
 refine .an (.nil (.ret ?_))
 first | (exfalso; omega) | exact ⟨_,_,rfl,rfl,(8 * x) * x,by rw [show aK op x.toNat = 0 by (try rw [hle]); unfold aK; (repeat' split) <;> omega]; rfl,rfl⟩
 refine .sr (.vl (Y.ql U U) (.an (.nil ?_)))
 refine .bm U (fun kr=>?_) (fun kr=>?_)
 refine .skip (.aO U (.sr (.mv ?_)))
 refine .vl (Y.qb U U aG) (.vl (Y.wc U U aG) (.fa jf ?_))
 refine .ai dS U U U U U U (aH U) U (.nil (.region (.mv ?_)))
 refine .vl (Y.qb U U aG) (.vl (Y.zq U U om) (.vl (Y.qb U U aG) (.mv ?_)))
 refine .vl (Y.qb U U aG) (.vl (Y.zq U U om) (.vl (Y.qb U U aG) (.mv ?_)))
 refine .vl (Y.zj U U om) (.mv ?_)
 refine .vl (Y.zj U U om) (.fa ky ?_)
 refine .ai dS U U U U U U (aH U) U ?_
 refine .fa kz ?_
 refine .ai dS U U U U U U (aH U) U ?_
 refine .fa bW ?_
 refine .ai dS U U U U U U (aH U) U (.nil (.sr (.vl (Y.zb dL U U (aH U) U U) (.ai bK U U U U U U (aH U) U ?_))))
 refine .an (.nil (.ret ?_))
 first | (exfalso; omega) | exact ⟨_,_,rfl,rfl,(8 * x) * x,by rw [show aK op x.toNat = 0 by (try rw [hle]); unfold aK; (repeat' split) <;> omega]; rfl,rfl⟩
 refine .sr (.vl (Y.ql U U) (.an (.nil ?_)))
 refine .bm U (fun kr=>?_) (fun kr=>?_)
 refine .skip (.aO U (.sr (.mv ?_)))
 refine .vl (Y.qb U U aG) (.vl (Y.wc U U aG) (.fa jf ?_))
 refine .ai dS U U U U U U (aH U) U (.nil (.region (.mv ?_)))
 refine .vl (Y.qb U U aG) (.vl (Y.zq U U om) (.vl (Y.qb U U aG) (.mv ?_)))
 refine .vl (Y.qb U U aG) (.vl (Y.zq U U om) (.vl (Y.qb U U aG) (.mv ?_)))
 refine .vl (Y.zj U U om) (.mv ?_)
 refine .vl (Y.zj U U om) (.fa ky ?_)
 refine .ai dS U U U U U U (aH U) U ?_
 refine .fa kz ?_
 refine .ai dS U U U U U U (aH U) U ?_
 refine .fa bW ?_
 refine .ai dS U U U U U U (aH U) U (.nil (.sr (.vl (Y.zb dL U U (aH U) U U) (.ai bK U U U U U U (aH U) U ?_))))
 refine .an (.nil (.ret ?_))
 first | (exfalso; omega) | exact ⟨_,_,rfl,rfl,(8 * x) * x,by rw [show aK op x.toNat = 0 by (try rw [hle]); unfold aK; (repeat' split) <;> omega]; rfl,rfl⟩
 refine .region (.vl (Y.ql U U) (.an (.nil ?_)))
 refine .bm U (fun kr=>?_) (fun kr=>?_)
 refine .sr (.mv ?_)
 refine .vl (Y.qb U U aG) (.vl (Y.wc U U aG) (.fa jf ?_))
 refine .ai dS U U U U U U (aH U) U (.nil (.region (.mv ?_)))
 refine .vl (Y.qb U U aG) (.vl (Y.zq U U om) (.vl (Y.qb U U aG) (.mv ?_)))
 refine .vl (Y.qb U U aG) (.vl (Y.zq U U om) (.vl (Y.qb U U aG) (.mv ?_)))
 refine .vl (Y.zj U U om) (.mv ?_)
 refine .vl (Y.zj U U om) (.fa ky ?_)
 refine .ai dS U U U U U U (aH U) U ?_
 refine .fa kz ?_
 refine .ai dS U U U U U U (aH U) U ?_
 refine .fa bW ?_
 refine .ai dS U U U U U U (aH U) U (.nil (.sr (.vl (Y.zb dL U U (aH U) U U) (.ai bK U U U U U U (aH U) U ?_))))
 refine .an (.nil (.ret ?_))
 first | (exfalso; omega) | exact ⟨_,_,rfl,rfl,(8 * x) * x,by rw [show aK op x.toNat = 0 by (try rw [hle]); unfold aK; (repeat' split) <;> omega]; rfl,rfl⟩
 refine .skip (.sr (.vl (Y.zb dL U U (aH U) U U) (.ai bK U U U U U U (aH U) U ?_)))
 refine .an (.nil (.ret ?_))
 first | (exfalso; omega) | exact ⟨_,_,rfl,rfl,0,by rw [show aK op x.toNat = 0 by (try rw [hle]); unfold aK; (repeat' split) <;> omega]; rfl,rfl⟩
open Go Go.AW Go.Proofs
theorem Gx{op:Int}(hp:¬ Plain op):aw Try.prog 124 [vi op,vi 1] [] [] (fun r o=>∃ a b c d e f k:Int,(k ≠ 0 \/ a ≠ 0) /\ r = .tup [.agg [vi a,vi b,vi c,vi d,vi e,vi f],vi k] /\ o = []):=by
 refine aw.of Try.func124 U U U (n:=184) ae (aH U) ?_
 have Kf:=hp; unfold Plain GX Seq Unary at Kf; have xC:cF (Int.toNat 1) = 0:=rfl; have Ja:cF (Int.toNat 2) = 1:=rfl
 refine .sr (.alloc 104 iE U U ae ?_)
 refine .an ?_
 refine .nil (.seq (.sr (.mv ?_)))
 refine .vl (Y.qz U U) (.mv ?_)
 refine .aC (d:=12) U (fun Ci=>?_) (fun Ci=>?_)
 refine .gz 12 (.gz 12 (.pk ?_))
 refine .nil (.aO U (.sr (.vl (Y.qh mI iE U U U) (.ai bK U U U U U U (aH U) U ?_))))
 refine .an (.nil (.ret ?_))
 first | (exfalso; omega) | exact ⟨_,_,rfl,rfl,_,_,_,_,_,_,_,om,rfl,rfl⟩
 refine .gw 12 (Y.zh U U) (.gw 12 (Y.qq U U) (.pk ?_))
 refine .nil (.aA U (fun ua=>?_) (fun ua=>?_))
 refine .sr (.vl (Y.qh mI iE U U U) (.ai bK U U U U U U (aH U) U ?_))
 refine .an (.nil (.ret ?_))
 first | (exfalso; omega) | exact ⟨_,_,rfl,rfl,_,_,_,_,_,_,_,om,rfl,rfl⟩
 refine .skip (.seq (.sr (.mv ?_)))
 refine .vl (Y.zc U U) (.mv ?_)
 refine .gw 19 (Y.zh U U) (.gw 19 (Y.qr U U) (.pk ?_))
 refine .nil (.cZ U (.skip (.sr (.mv ?_))))
 refine .mv ?_
 refine .aZ yc (kQ (x:=1) (om) (om)) U (.aj U U .nil) ae U ?_
 refine .mv ?_
 refine .vl (Y.qb U U aG) (.aZ yc (kQ (x:=(1 + 1)) (om) (om)) U (.aj U U .nil) ae U ?_)
 refine .an ?_
 refine .an ?_
 refine .an (.nil (.sr ?_))
 refine .mv ?_
 refine .vl (Y.qh mI iE U U U) (.alloc 109 iE U U ae (.ai bK U U U U U U (aH U) U ?_))
 refine .nil (.seq (.sr (.mv ?_)))
 refine .nil (.block (.seq (.sr (.vl (Y.ql U U) (.an (.nil ?_))))))
 refine .bm U (fun Da=>?_) (fun Da=>?_)
 refine .skip (.aO U (.region (.mv ?_)))
 refine .fa cN ?_
 refine .ai dS U U U U U U (aH U) U ?_
 refine .fa bW ?_
 refine .ai dS U U U U U U (aH U) U (.nil (.sr (.vl (Y.zb dL U U (aH U) U U) (.ai bK U U U U U U (aH U) U ?_))))
 refine .an (.nil (.ret ?_))
 first | (exfalso; omega) | exact ⟨_,_,rfl,rfl,_,_,_,_,_,_,_,om,rfl,rfl⟩
 refine .sr (.vl (Y.ql U U) (.an (.nil ?_)))
 refine .bm U (fun Da=>?_) (fun Da=>?_)
 refine .skip (.aO U (.region (.mv ?_)))
 refine .fa cN ?_
 refine .ai dS U U U U U U (aH U) U ?_
 refine .fa bW ?_
 refine .ai dS U U U U U U (aH U) U (.nil (.sr (.vl (Y.zb dL U U (aH U) U U) (.ai bK U U U U U U (aH U) U ?_))))
 refine .an (.nil (.ret ?_))
 first | (exfalso; omega) | exact ⟨_,_,rfl,rfl,_,_,_,_,_,_,_,om,rfl,rfl⟩
 refine .region (.vl (Y.ql U U) (.an (.nil ?_)))
 refine .bm U (fun Da=>?_) (fun Da=>?_)
 refine .region (.mv ?_)
 refine .fa cN ?_
 refine .ai dS U U U U U U (aH U) U ?_
 refine .fa bW ?_
 refine .ai dS U U U U U U (aH U) U (.nil (.sr (.vl (Y.zb dL U U (aH U) U U) (.ai bK U U U U U U (aH U) U ?_))))
 refine .an (.nil (.ret ?_))
 first | (exfalso; omega) | exact ⟨_,_,rfl,rfl,_,_,_,_,_,_,_,om,rfl,rfl⟩
 refine .sr (.vl (Y.ql U U) (.an (.nil ?_)))
 refine .aA U (fun AK=>?_) (fun AK=>?_)
 refine .region (.mv ?_)
 refine .vl (Y.zj U U om) (.vl (Y.qb U U aG) (.mv ?_))
 refine .vl (Y.zj U U om) (.mv ?_)
 refine .vl (Y.zj U U om) (.mv ?_)
 refine .vl (Y.zj U U om) (.vl (Y.qb U U aG) (.fa cN ?_))
 refine .ai dS U U U U U U (aH U) U ?_
 refine .fa bW ?_
 refine .ai dS U U U U U U (aH U) U (.nil (.sr (.vl (Y.zb dL U U (aH U) U U) (.ai bK U U U U U U (aH U) U ?_))))
 refine .an (.nil (.ret ?_))
 first | (exfalso; omega) | exact ⟨_,_,rfl,rfl,_,_,_,_,_,_,_,om,rfl,rfl⟩
 refine .sr (.vl (Y.ql U U) (.an (.nil ?_)))
 refine .aA U (fun Hh=>?_) (fun Hh=>?_)
 refine .region (.mv ?_)
 refine .vl (Y.zj U U om) (.vl (Y.qb U U aG) (.mv ?_))
 refine .vl (Y.zj U U om) (.mv ?_)
 refine .vl (Y.zj U U om) (.mv ?_)
 refine .vl (Y.zj U U om) (.vl (Y.qb U U aG) (.fa cN ?_))
 refine .ai dS U U U U U U (aH U) U ?_
 refine .fa bW ?_
 refine .ai dS U U U U U U (aH U) U (.nil (.sr (.vl (Y.zb dL U U (aH U) U U) (.ai bK U U U U U U (aH U) U ?_))))
 refine .an (.nil (.ret ?_))
 first | (exfalso; omega) | exact ⟨_,_,rfl,rfl,_,_,_,_,_,_,_,om,rfl,rfl⟩
 refine .seq (.sr (.vl (Y.ql U U) (.an (.nil ?_))))
 refine .bm U (fun DH=>?_) (fun DH=>?_)
 refine .skip (.aO U (.region (.mv ?_)))
 refine .vl (Y.zj U U om) (.vl (Y.qb U U aG) (.mv ?_))
 refine .vl (Y.zj U U om) (.fa cN ?_)
 refine .ai dS U U U U U U (aH U) U ?_
 refine .fa bW ?_
 refine .ai dS U U U U U U (aH U) U (.nil (.sr (.vl (Y.zb dL U U (aH U) U U) (.ai bK U U U U U U (aH U) U ?_))))
 refine .an (.nil (.ret ?_))
 first | (exfalso; omega) | exact ⟨_,_,rfl,rfl,_,_,_,_,_,_,_,om,rfl,rfl⟩
 refine .region (.vl (Y.ql U U) (.an (.nil ?_)))
 refine .bm U (fun DH=>?_) (fun DH=>?_)
 refine .region (.mv ?_)
 refine .vl (Y.zj U U om) (.vl (Y.qb U U aG) (.mv ?_))
 refine .vl (Y.zj U U om) (.fa cN ?_)
 refine .ai dS U U U U U U (aH U) U ?_
 refine .fa bW ?_
 refine .ai dS U U U U U U (aH U) U (.nil (.sr (.vl (Y.zb dL U U (aH U) U U) (.ai bK U U U U U U (aH U) U ?_))))
 refine .an (.nil (.ret ?_))
 first | (exfalso; omega) | exact ⟨_,_,rfl,rfl,_,_,_,_,_,_,_,om,rfl,rfl⟩
 refine .seq (.sr (.vl (Y.ql U U) (.an (.nil ?_))))
 refine .bm U (fun AB=>?_) (fun AB=>?_)
 refine .skip (.aO U (.region (.mv ?_)))
 refine .vl (Y.zj U U om) (.vl (Y.qb U U aG) (.mv ?_))
 refine .vl (Y.zj U U om) (.mv ?_)
 refine .vl (Y.zj U U om) (.mv ?_)
 refine .vl (Y.zj U U om) (.vl (Y.qb U U aG) (.fa cN ?_))
 refine .ai dS U U U U U U (aH U) U ?_
 refine .fa bW ?_
 refine .ai dS U U U U U U (aH U) U (.nil (.sr (.vl (Y.zb dL U U (aH U) U U) (.ai bK U U U U U U (aH U) U ?_))))
 refine .an (.nil (.ret ?_))
 first | (exfalso; omega) | exact ⟨_,_,rfl,rfl,_,_,_,_,_,_,_,om,rfl,rfl⟩
 refine .region (.vl (Y.ql U U) (.an (.nil ?_)))
 refine .bm U (fun AB=>?_) (fun AB=>?_)
 refine .region (.mv ?_)
 refine .vl (Y.zj U U om) (.vl (Y.qb U U aG) (.mv ?_))
 refine .vl (Y.zj U U om) (.mv ?_)
 refine .vl (Y.zj U U om) (.mv ?_)
 refine .vl (Y.zj U U om) (.vl (Y.qb U U aG) (.fa cN ?_))
 refine .ai dS U U U U U U (aH U) U ?_
 refine .fa bW ?_
 refine .ai dS U U U U U U (aH U) U (.nil (.sr (.vl (Y.zb dL U U (aH U) U U) (.ai bK U U U U U U (aH U) U ?_))))
 refine .an (.nil (.ret ?_))
 first | (exfalso; omega) | exact ⟨_,_,rfl,rfl,_,_,_,_,_,_,_,om,rfl,rfl⟩
 refine .seq (.sr (.vl (Y.ql U U) (.an (.nil ?_))))
 refine .bm U (fun FY=>?_) (fun FY=>?_)
 refine .skip (.aO U (.region (.mv ?_)))
 refine .vl (Y.zj U U om) (.vl (Y.qb U U aG) (.mv ?_))
 refine .vl (Y.zj U U om) (.mv ?_)
 refine .vl (Y.zj U U om) (.mv ?_)
 refine .vl (Y.zj U U om) (.vl (Y.qb U U aG) (.vl (Y.qb U U aG) (.fa cN ?_)))
 refine .ai dS U U U U U U (aH U) U ?_
 refine .fa bW ?_
 refine .ai dS U U U U U U (aH U) U (.nil (.sr (.vl (Y.zb dL U U (aH U) U U) (.ai bK U U U U U U (aH U) U ?_))))
 refine .an (.nil (.ret ?_))
 first | (exfalso; omega) | exact ⟨_,_,rfl,rfl,_,_,_,_,_,_,_,om,rfl,rfl⟩
 refine .region (.vl (Y.ql U U) (.an (.nil ?_)))
 refine .bm U (fun FY=>?_) (fun FY=>?_)
 refine .region (.mv ?_)
 refine .vl (Y.zj U U om) (.vl (Y.qb U U aG) (.mv ?_))
 refine .vl (Y.zj U U om) (.mv ?_)
 refine .vl (Y.zj U U om) (.mv ?_)
 refine .vl (Y.zj U U om) (.vl (Y.qb U U aG) (.vl (Y.qb U U aG) (.fa cN ?_)))
 refine .ai dS U U U U U U (aH U) U ?_
 refine .fa bW ?_
 refine .ai dS U U U U U U (aH U) U (.nil (.sr (.vl (Y.zb dL U U (aH U) U U) (.ai bK U U U U U U (aH U) U ?_))))
 refine .an (.nil (.ret ?_))
 first | (exfalso; omega) | exact ⟨_,_,rfl,rfl,_,_,_,_,_,_,_,om,rfl,rfl⟩
 refine .sr (.vl (Y.ql U U) (.an (.nil ?_)))
 refine .aA U (fun Ma=>?_) (fun Ma=>?_)
 refine .region (.mv ?_)
 refine .vl (Y.zj U U om) (.vl (Y.qb U U aG) (.fa cN ?_))
 refine .ai dS U U U U U U (aH U) U ?_
 refine .fa bW ?_
 refine .ai dS U U U U U U (aH U) U (.nil (.sr (.vl (Y.zb dL U U (aH U) U U) (.ai bK U U U U U U (aH U) U ?_))))
 refine .an (.nil (.ret ?_))
 first | (exfalso; omega) | exact ⟨_,_,rfl,rfl,_,_,_,_,_,_,_,om,rfl,rfl⟩
 refine .seq (.sr (.vl (Y.ql U U) (.an (.nil ?_))))
 refine .bm U (fun vm=>?_) (fun vm=>?_)
 refine .skip (.aO U (.region (.mv ?_)))
 refine .vl (Y.zj U U om) (.vl (Y.qb U U aG) (.mv ?_))
 refine .vl (Y.zj U U om) (.mv ?_)
 refine .vl (Y.zj U U om) (.mv ?_)
 refine .vl (Y.zj U U om) (.vl (Y.qb U U aG) (.fa cN ?_))
 refine .ai dS U U U U U U (aH U) U ?_
 refine .fa bW ?_
 refine .ai dS U U U U U U (aH U) U (.nil (.sr (.vl (Y.zb dL U U (aH U) U U) (.ai bK U U U U U U (aH U) U ?_))))
 refine .an (.nil (.ret ?_))
 first | (exfalso; omega) | exact ⟨_,_,rfl,rfl,_,_,_,_,_,_,_,om,rfl,rfl⟩
 refine .region (.vl (Y.ql U U) (.an (.nil ?_)))
 refine .bm U (fun vm=>?_) (fun vm=>?_)
 refine .region (.mv ?_)
 refine .vl (Y.zj U U om) (.vl (Y.qb U U aG) (.mv ?_))
 refine .vl (Y.zj U U om) (.mv ?_)
 refine .vl (Y.zj U U om) (.mv ?_)
 refine .vl (Y.zj U U om) (.vl (Y.qb U U aG) (.fa cN ?_))
 refine .ai dS U U U U U U (aH U) U ?_
 refine .fa bW ?_
 refine .ai dS U U U U U U (aH U) U (.nil (.sr (.vl (Y.zb dL U U (aH U) U U) (.ai bK U U U U U U (aH U) U ?_))))
 refine .an (.nil (.ret ?_))
 first | (exfalso; omega) | exact ⟨_,_,rfl,rfl,_,_,_,_,_,_,_,om,rfl,rfl⟩
 refine .sr (.vl (Y.ql U U) (.an (.nil ?_)))
 refine .aA U (fun pg=>?_) (fun pg=>?_)
 refine .region (.mv ?_)
 refine .vl (Y.zj U U om) (.vl (Y.qb U U aG) (.mv ?_))
 refine .vl (Y.zj U U om) (.mv ?_)
 refine .vl (Y.zj U U om) (.mv ?_)
 refine .vl (Y.zj U U om) (.vl (Y.qb U U aG) (.fa cN ?_))
 refine .ai dS U U U U U U (aH U) U ?_
 refine .fa bW ?_
 refine .ai dS U U U U U U (aH U) U (.nil (.sr (.vl (Y.zb dL U U (aH U) U U) (.ai bK U U U U U U (aH U) U ?_))))
 refine .an (.nil (.ret ?_))
 first | (exfalso; omega) | exact ⟨_,_,rfl,rfl,_,_,_,_,_,_,_,om,rfl,rfl⟩
 refine .sr (.vl (Y.ql U U) (.an (.nil ?_)))
 refine .aA U (fun AP=>?_) (fun AP=>?_)
 refine .region (.mv ?_)
 refine .vl (Y.qb U U aG) (.vl (Y.zq U U om) (.vl (Y.qb U U aG) (.mv ?_)))
 refine .vl (Y.zj U U om) (.mv ?_)
 refine .vl (Y.zj U U om) (.fa jf ?_)
 refine .ai dS U U U U U U (aH U) U ?_
 refine .fa ky ?_
 refine .ai dS U U U U U U (aH U) U ?_
 refine .fa kz ?_
 refine .ai dS U U U U U U (aH U) U ?_
 refine .fa bW ?_
 refine .ai dS U U U U U U (aH U) U (.nil (.sr (.vl (Y.zb dL U U (aH U) U U) (.ai bK U U U U U U (aH U) U ?_))))
 refine .an (.nil (.ret ?_))
 first | (exfalso; omega) | exact ⟨_,_,rfl,rfl,_,_,_,_,_,_,_,om,rfl,rfl⟩
 refine .seq (.sr (.vl (Y.ql U U) (.an (.nil ?_))))
 refine .bm U (fun kr=>?_) (fun kr=>?_)
 refine .skip (.aO U (.sr (.mv ?_)))
 refine .vl (Y.qb U U aG) (.vl (Y.wc U U aG) (.fa jf ?_))
 refine .ai dS U U U U U U (aH U) U (.nil (.region (.mv ?_)))
 refine .vl (Y.qb U U aG) (.vl (Y.zq U U om) (.vl (Y.qb U U aG) (.mv ?_)))
 refine .vl (Y.qb U U aG) (.vl (Y.zq U U om) (.vl (Y.qb U U aG) (.mv ?_)))
 refine .vl (Y.zj U U om) (.mv ?_)
 refine .vl (Y.zj U U om) (.fa ky ?_)
 refine .ai dS U U U U U U (aH U) U ?_
 refine .fa kz ?_
 refine .ai dS U U U U U U (aH U) U ?_
 refine .fa bW ?_
 refine .ai dS U U U U U U (aH U) U (.nil (.sr (.vl (Y.zb dL U U (aH U) U U) (.ai bK U U U U U U (aH U) U ?_))))
 refine .an (.nil (.ret ?_))
 first | (exfalso; omega) | exact ⟨_,_,rfl,rfl,_,_,_,_,_,_,_,om,rfl,rfl⟩
 refine .sr (.vl (Y.ql U U) (.an (.nil ?_)))
 refine .bm U (fun kr=>?_) (fun kr=>?_)
 refine .skip (.aO U (.sr (.mv ?_)))
 refine .vl (Y.qb U U aG) (.vl (Y.wc U U aG) (.fa jf ?_))
 refine .ai dS U U U U U U (aH U) U (.nil (.region (.mv ?_)))
 refine .vl (Y.qb U U aG) (.vl (Y.zq U U om) (.vl (Y.qb U U aG) (.mv ?_)))
 refine .vl (Y.qb U U aG) (.vl (Y.zq U U om) (.vl (Y.qb U U aG) (.mv ?_)))
 refine .vl (Y.zj U U om) (.mv ?_)
 refine .vl (Y.zj U U om) (.fa ky ?_)
 refine .ai dS U U U U U U (aH U) U ?_
 refine .fa kz ?_
 refine .ai dS U U U U U U (aH U) U ?_
 refine .fa bW ?_
 refine .ai dS U U U U U U (aH U) U (.nil (.sr (.vl (Y.zb dL U U (aH U) U U) (.ai bK U U U U U U (aH U) U ?_))))
 refine .an (.nil (.ret ?_))
 first | (exfalso; omega) | exact ⟨_,_,rfl,rfl,_,_,_,_,_,_,_,om,rfl,rfl⟩
 refine .sr (.vl (Y.ql U U) (.an (.nil ?_)))
 refine .bm U (fun kr=>?_) (fun kr=>?_)
 refine .skip (.aO U (.sr (.mv ?_)))
 refine .vl (Y.qb U U aG) (.vl (Y.wc U U aG) (.fa jf ?_))
 refine .ai dS U U U U U U (aH U) U (.nil (.region (.mv ?_)))
 refine .vl (Y.qb U U aG) (.vl (Y.zq U U om) (.vl (Y.qb U U aG) (.mv ?_)))
 refine .vl (Y.qb U U aG) (.vl (Y.zq U U om) (.vl (Y.qb U U aG) (.mv ?_)))
 refine .vl (Y.zj U U om) (.mv ?_)
 refine .vl (Y.zj U U om) (.fa ky ?_)
 refine .ai dS U U U U U U (aH U) U ?_
 refine .fa kz ?_
 refine .ai dS U U U U U U (aH U) U ?_
 refine .fa bW ?_
 refine .ai dS U U U U U U (aH U) U (.nil (.sr (.vl (Y.zb dL U U (aH U) U U) (.ai bK U U U U U U (aH U) U ?_))))
 refine .an (.nil (.ret ?_))
 first | (exfalso; omega) | exact ⟨_,_,rfl,rfl,_,_,_,_,_,_,_,om,rfl,rfl⟩
 refine .region (.vl (Y.ql U U) (.an (.nil ?_)))
 refine .bm U (fun kr=>?_) (fun kr=>?_)
 refine .sr (.mv ?_)
 refine .vl (Y.qb U U aG) (.vl (Y.wc U U aG) (.fa jf ?_))
 refine .ai dS U U U U U U (aH U) U (.nil (.region (.mv ?_)))
 refine .vl (Y.qb U U aG) (.vl (Y.zq U U om) (.vl (Y.qb U U aG) (.mv ?_)))
 refine .vl (Y.qb U U aG) (.vl (Y.zq U U om) (.vl (Y.qb U U aG) (.mv ?_)))
 refine .vl (Y.zj U U om) (.mv ?_)
 refine .vl (Y.zj U U om) (.fa ky ?_)
 refine .ai dS U U U U U U (aH U) U ?_
 refine .fa kz ?_
 refine .ai dS U U U U U U (aH U) U ?_
 refine .fa bW ?_
 refine .ai dS U U U U U U (aH U) U (.nil (.sr (.vl (Y.zb dL U U (aH U) U U) (.ai bK U U U U U U (aH U) U ?_))))
 refine .an (.nil (.ret ?_))
 first | (exfalso; omega) | exact ⟨_,_,rfl,rfl,_,_,_,_,_,_,_,om,rfl,rfl⟩
 refine .skip (.sr (.vl (Y.zb dL U U (aH U) U U) (.ai bK U U U U U U (aH U) U ?_)))
 refine .an (.nil (.ret ?_))
 first | (exfalso; omega) | exact ⟨_,_,rfl,rfl,_,_,_,_,_,_,_,om,rfl,rfl⟩
open Go Go.AW Go.Proofs
theorem xn{op:Int}(hp:Plain op):aw Try.prog 74 [vi op] [] [] (fun r o=>r = .v (.bool true) /\ o = []):=by
 refine aw.of Try.func74 U U U (n:=17) ae (aH U) (.sr (.an (.nil (.sr ?_))))
 refine .mv ?_
 refine .oP JA (IZ (op:=op) (x:=1) hp ae ae) U (.aj U U (.aj U U .nil)) ae ?_
 rintro _ ⟨ar7,rfl,_⟩
 refine ⟨U,(.mv ?_)⟩
 refine .vl (Y.qn U U U) (.vl (Y.qn U U U) (.alloc 103 iE U U ae ?_))
 refine .ai bK U U U U U U (aH U) U ?_
 refine .an (.nil (.sr ?_))
 refine .mv ?_
 refine .vl (Y.ql U U) (.mv ?_)
 refine .gw 12 (Y.qp jf U U) (.gw 12 (Y.za bj U U U U) (.gw 12 (Y.ql U U) (.pk ?_)))
 refine .an (.nil (.ret ?_))
 exact .rb rfl (rfl)
theorem yL{op:Int}(hp:¬ Plain op):aw Try.prog 74 [vi op] [] [] (fun r o=>r = .v (.bool false) /\ o = []):=by
 refine aw.of Try.func74 U U U (n:=17) ae (aH U) (.sr (.an (.nil (.sr ?_))))
 refine .mv ?_
 refine .oP JA (Gx (op:=op) hp) U (.aj U U (.aj U U .nil)) ae ?_
 rintro _ ⟨ua7,ub7,uc7,ud7,ue7,uf7,uk7,hu7,rfl,_⟩
 refine ⟨U,(.mv ?_)⟩
 refine .vl (Y.qn U U U) (.vl (Y.qn U U U) (.alloc 103 iE U U ae ?_))
 refine .ai bK U U U U U U (aH U) U ?_
 refine .an (.nil (.sr ?_))
 refine .mv ?_
 refine .vl (Y.ql U U) (.mv ?_)
 refine .aC (d:=12) U (fun Ci=>?_) (fun Ci=>?_)
 refine .gw 12 (Y.qp jf U U) (.gw 12 (Y.za bj U U U U) (.gw 12 (Y.ql U U) (.pk ?_)))
 refine .an (.nil (.ret ?_))
 exact .rb rfl (decide_eq_false om)
 refine .gz 12 (.gz 12 (.gz 12 (.pk ?_)))
 refine .an (.nil (.ret ?_))
 exact .rb rfl (rfl)
theorem vI{op:Int}:aw Try.prog 74 [vi op] [] [] (fun r o=>r = .v (.bool (decide (Plain op))) /\ o = []):=by
  by_cases h:Plain op
  · rw [decide_eq_true h]; exact xn h
  · rw [decide_eq_false h]; exact yL h
open Go Go.AW Go.Proofs
theorem sd{gl:List Gate}(tu:gl.length <= 40000000){x:Int}(hx:0 <= x /\ x <= 64):aw Try.prog 78 [.ptr 0 0 0 0,vi x] [.cells [.aL 1 3 0 gl.length],.rows 3 (gl.map Gate.row)] [0] (fun r o=>r = .dH 1 ((pI gl.length x.toNat).map ah) /\ o = [.cells [.aL 1 3 0 (gl ++ pJ x.toNat).length],.rows 3 ((gl ++ pJ x.toNat).map Gate.row)]):=by
  obtain ⟨n,rfl⟩:∃ n:Nat,x = (n:Int):=⟨x.toNat,om⟩
  rw [Int.toNat_natCast]; exact yH tu om
theorem pv{c : Int}{gl : List Gate}(hg : Good gl)(tu : gl.length ≤ 20000000){op : Int}{ws : List (List Int)}{w : Nat}{width : Int}{xN yN zN : List Bool → Nat}{t : Int}(hI : Ix c gl ws op w width.toNat xN yN zN t)(vy : ws.length ≤ 100)(h0 : 0 ≤ width) :
    aw Try.prog 79 [.ptr 0 0 0 0,.v (.int .i64 op),.fz 1 (ws.map dc),.v (.int .i64 width)] [.cells [.aL 1 3 0 gl.length],.rows 3 (gl.map Gate.row)] [0] (fun r o=>∃ (l:List Gate) (out:List Int),Ext gl l /\ l.length <= gl.length + 1600 /\ Cb c l out op w width.toNat xN yN zN t /\ r = .dH 1 (out.map ah) /\ o = [.cells [.aL 1 3 0 l.length],.rows 3 (l.map Gate.row)]):=by
  have h:=vH (c:=c) hg tu hI vy
  rwa [Int.toNat_of_nonneg h0] at h
theorem Gy{op width:Int}{ws:List Int}(hk:ws.length <= 5):aw Try.prog 32 [vi op,.fz 1 (ws.map ah),vi width] [] [] (fun r o=>∃ (l:List Gate) (out:List Int) (e:Int),o6 op ws width l out e /\ r = .tup [.dH 3 (l.map Gate.row),.dH 1 (out.map ah),vi e] /\ o = []):=by
 refine aw.of Try.func32 U U U (n:=106) ae (aH U) (.sr (.an ?_))
 refine .an ?_
 refine .an ?_
 refine .nil (.sr (.vl (Y.qh OW OZ U U U) (.box 119 U U U U U ae ?_)))
 refine .an ?_
 refine .nil (.seq (.sh (Sh.eu 119 301 1 1 U U U U ae) (.sh (Sh.eu 119 302 6 2 U U U U ae) (.sh (Sh.eu 119 303 1 3 U U U U ae) (.region (.an ?_))))))
 refine .sh (Sh.nil (d:=10) 110 1 U ae) (.nil (.seq (.sr (.mv ?_))))
 refine .vl (Y.qx (n:=ws.length) a7 U (congrArg some (List.length_map ..))) (.mv ?_)
 refine .nil (.block ?_)
 refine .NR (fun (fU:Nat) (cW:List Int) (cj:List Int) (fB:List Cell) (fh:List Int)=>⟨[(0,vi op),(1,.fz 1 (ws.map ah)),(2,vi width),(9,.ptr 119 0 0 0),(10,.aL 110 1 0 cW.length),(20,.fz 1 (ws.map ah)),(21,vi ws.length),(22,vi fU)],[(110,.rows 1 (cW.map ah)),(119,.cells [.v (.string ByteArray.empty),.aL 301 1 0 cj.length,.aL 302 6 0 fB.length,.aL 303 1 0 fh.length,.v (.slice none 0 0),.v (.slice none 0 0),.v (.slice none 0 0),.v (.slice none 0 0),vi 0,vi 0,.v (.slice none 0 0)]),(301,.rows 1 (cj.map ah)),(302,.rows 6 (fB.map Cell.row)),(303,.rows 1 (fh.map ah))]⟩) (fun fU cW cj fB fh=>((fU:Int) <= (ws.length:Int)) /\ (cj = ws.take fU /\ fB = DE fU /\ fh = ws.take fU /\ cW = pI 0 fU)) (fun fU cW cj fB fh=>((ws.length:Int) - (fU:Int)).toNat) 0 ([]:List Int) ([]:List Int) ([]:List Cell) ([]:List Int) (⟨mz,⟨U,U,U,U⟩⟩) (Le.mk (.c4 (.cons (aN U aG) (.c2 (.cons (ak U bc) .nil)))) (.c (.cons (ay U eR) (.c2 (.c .nil))))) (fun fU cW cj fB fh AA=>?_)
 obtain ⟨FQ,hP⟩:=AA
 refine .sr (.vl (Y.zc U U) (.nil (.seq (.aA U (fun y9=>?_) (fun y9=>?_)))))
 refine .skip (.seq (.block (.seq ?_)))
 obtain ⟨Xy,Xz,X0,X1⟩:=hP; have Ve:cj.length = fU:=(by rw [Xy,List.length_take]; omega); have Zu:fB.length = fU:=(by rw [Xz,l5]); have Zv:fh.length = fU:=(by rw [X0,List.length_take]; omega); have X2:cW.length = fU:=(by rw [X1,mM])
 refine .region (.mv ?_)
 refine .vl (Y.qs (m:=fU) a7 U U bc (ao (d:=0) om)) (.ld bj ?_)
 refine .an ?_
 refine .an (.nil (.sr ?_))
 refine .mv ?_
 refine .mv ?_
 refine .mv ?_
 refine .bw [119,301,302,303] [] KT (qY (w:=ws.getD fU 0) (ws:=cj) (cs:=fB) (is:=fh) (nm:=ByteArray.empty) (fz:=0) (dn:=0) om om) U (.named U U (.aj U U .nil)) ⟨U,U,U,U,trivial⟩ U ae (fun _ h=>by cases h) (fun _ h=>by cases h) ae ae ?_
 rintro r aJ ⟨rfl,rfl⟩ _
 refine ⟨⟨rfl,(by intro ob aW; simp only [List.mem_cons,List.not_mem_nil,or_false] at aW; rcases aW with rfl | rfl | rfl | rfl <;> rfl),.inl rfl⟩,(.buildSlice (([(((cj).length:Nat):Int)]:List Int).map ah) a7 dD U U U U U (aq (s:=1) (f:=ah) (fun _=>U)) U U U ae ?_)⟩
 refine .cL ah (cW ++ ([(((cj).length:Nat):Int)]:List Int)) a7 dD U U U U (bg aG) (aR aG) (bz aG) aG aG ae ae ?_
 refine .an (.nil (.sr ?_))
 refine .mv ?_
 refine .mv ?_
 refine .mv ?_
 refine .vl (Y.qt (m:=fU) a7 U U bc aG) (.vl (Y.za bj U (aM (d:=0) aG) U U) (.mv ?_))
 refine .vl (Y.qk sD yb U (by first | rfl | exact IntWalk.u64_in _ om)) (.vl (Y.qh vB ez U U U) (.sh (Sh.Ev (d:=40) 1 3 U U) (.bw [119,301,302,303] [] KU (pt (c:=(⟨8,0,(cW ++ ([(((cj).length:Nat):Int)]:List Int)).getD fU 0,([]:List Int),fU,0⟩:Cell)) (ws:=cj ++ [ws.getD fU 0]) (cs:=fB) (is:=fh) (nm:=ByteArray.empty) (fz:=0) (dn:=0) aG aG (by simp)) U (.named U U (.aj U U .nil)) ⟨U,U,U,U,trivial⟩ U ae (fun _ h=>by cases h) (fun _ h=>by cases h) ae ae ?_)))
 rintro r aJ ⟨rfl,rfl⟩ _
 refine ⟨⟨rfl,(by intro ob aW; simp only [List.mem_cons,List.not_mem_nil,or_false] at aW; rcases aW with rfl | rfl | rfl | rfl <;> rfl),.inl rfl⟩,(.nil (.region (.mv ?_)))⟩
 refine .mv ?_
 refine .vl (Y.zm U U) (.fa jg ?_)
 refine .fa lb ?_
 refine .ld bt ?_
 refine .mv ?_
 refine .buildSlice (([ws.getD fU 0]:List Int).map ah) a7 dD U U U U U (aq (s:=1) (f:=ah) (fun _=>U)) U U U ae ?_
 refine .cL ah (fh ++ ([ws.getD fU 0]:List Int)) a7 dD U U U U (bg aG) (aR aG) (bz aG) aG aG ae ae (.vl (Y.zm U U) (.fa jg ?_))
 refine .fa lb ?_
 refine .ai fJ U U U U U U (aH U) U (.nil (.region (.vl (Y.qb U U aG) (.mv ?_))))
 refine .nil (⟨fU + 1,cW ++ ([(((cj).length:Nat):Int)]:List Int),(cj ++ [ws.getD fU 0]),fB ++ [(⟨8,0,(cW ++ ([(((cj).length:Nat):Int)]:List Int)).getD fU 0,([]:List Int),fU,0⟩:Cell)],fh ++ ([ws.getD fU 0]:List Int),⟨om,⟨by rw [Xy]; exact (take_one om).symm,by rw [y0,lB X2.symm,Ve,<- Xz],by rw [X0]; exact (take_one om).symm,by rw [yz,<- X1,Ve,Nat.zero_add]⟩⟩,om,Le.mk (.c4 (.cons (aN U om) (.c2 (.cons (ak U bc) .nil)))) (.c (.cons (ay U eR) (.c2 (.c .nil))))⟩)
 refine .exit (.le (aY:=⟨[(0,vi op),(1,.fz 1 (ws.map ah)),(2,vi width),(9,.ptr 119 0 0 0),(10,.aL 110 1 0 cW.length)],[(110,.rows 1 (cW.map ah)),(119,.cells [.v (.string ByteArray.empty),.aL 301 1 0 cj.length,.aL 302 6 0 fB.length,.aL 303 1 0 fh.length,.v (.slice none 0 0),.v (.slice none 0 0),.v (.slice none 0 0),.v (.slice none 0 0),vi 0,vi 0,.v (.slice none 0 0)]),(301,.rows 1 (cj.map ah)),(302,.rows 6 (fB.map Cell.row)),(303,.rows 1 (fh.map ah))]⟩) (Le.mk (.c4 (.c .nil)) (.c4 (.c .nil))) ?_)
 refine .seq (.seq ?_)
 have Ve:cj.length = ws.length:=(by rw [hP.1,List.length_take]; omega); have Zu:fB.length = ws.length:=(by rw [hP.2.1,l5]; omega); have Zv:fh.length = ws.length:=(by rw [hP.2.2.1,List.length_take]; omega); have X2:cW.length = ws.length:=(by rw [hP.2.2.2,mM]; omega)
 refine .region (.mv ?_)
 refine .aZ Td (vI (op:=op)) U (.aj U U .nil) ae U (.vl (Y.zn U) (.nil (.lh U (fun DG=>?_) (fun DG=>?_))))
 refine .sr (.an ?_)
 refine .an ?_
 refine .an ?_
 refine .nil (.sh (Sh.v9 (d:=6) 3 U) (.sh (Sh.v9 (d:=7) 1 U) (.ret (⟨_,_,U,U,[],[],1,.inl ⟨by simpa using DG,U⟩,U,U⟩))))
 refine .skip (.le (aY:=⟨[(0,vi op),(1,.fz 1 (ws.map ah)),(2,vi width),(9,.ptr 119 0 0 0),(10,.aL 110 1 0 cW.length)],[(110,.rows 1 (cW.map ah)),(119,.cells [.v (.string ByteArray.empty),.aL 301 1 0 cj.length,.aL 302 6 0 fB.length,.aL 303 1 0 fh.length,.v (.slice none 0 0),.v (.slice none 0 0),.v (.slice none 0 0),.v (.slice none 0 0),vi 0,vi 0,.v (.slice none 0 0)]),(301,.rows 1 (cj.map ah)),(302,.rows 6 (fB.map Cell.row)),(303,.rows 1 (fh.map ah))]⟩) (Le.mk (.c4 (.c .nil)) (.c4 (.c .nil))) (.seq (.sh (Sh.dA (d:=10) (o:=110) U U (aU om) ae) (.sh (Sh.cG (d:=10) (cW.map ah) U iJ (cC.map aI)) (.region (.mv ?_))))))
 refine .mv ?_
 refine .mv ?_
 refine .mv ?_
 refine .bw [119,301,302,303] [] Te (Dm (op:=op) (w:=width) (args:=cW) (ws:=cj) (cs:=fB) (is:=fh) (nm:=ByteArray.empty) (fz:=0) (dn:=0) om om om) U (.named U U (.aj U U (.aj U U (.aj U U .nil)))) ⟨U,U,U,U,trivial⟩ U ae (fun _ h=>by cases h) (fun _ h=>by cases h) ae ae ?_
 rintro r aJ ⟨rfl,rfl⟩ _
 refine ⟨⟨rfl,(by intro ob aW; simp only [List.mem_cons,List.not_mem_nil,or_false] at aW; rcases aW with rfl | rfl | rfl | rfl <;> rfl),.inl rfl⟩,(.nil (.sr (.mv ?_)))⟩
 refine .bw [119,301,302,303] [] Tf (yK (w:=1) (x:=0) (ws:=cj ++ [width]) (cs:=fB ++ [(⟨2,op,((cj).length:Int),cW,0,0⟩:Cell)]) (is:=fh) (nm:=ByteArray.empty) (fz:=0) (dn:=0) aG aG ae) U (.named U U (.aj U U (.aj U U .nil))) ⟨U,U,U,U,trivial⟩ U ae (fun _ h=>by cases h) (fun _ h=>by cases h) ae ae ?_
 rintro r aJ ⟨rfl,rfl⟩ _
 refine ⟨⟨rfl,(by intro ob aW; simp only [List.mem_cons,List.not_mem_nil,or_false] at aW; rcases aW with rfl | rfl | rfl | rfl <;> rfl),.inl rfl⟩,(.an (.nil (.sr ?_)))⟩
 refine .mv ?_
 refine .mv ?_
 refine .mv ?_
 refine .mv ?_
 refine .vl (Y.zm U U) (.fa jg ?_)
 refine .fa sC ?_
 refine .ai dS U U U U U U (aH U) U (.vl (Y.zm U U) (.fa jg ?_))
 refine .fa wS ?_
 refine .ai dS U U U U U U (aH U) U (.nil ?_)
 refine .le (aY:=⟨[(0,vi op),(1,.fz 1 (ws.map ah)),(2,vi width),(9,.ptr 119 0 0 0)],[(119,.cells [.v (.string ByteArray.empty),.aL 301 1 0 (((cj ++ [width]) ++ [1]).length),.aL 302 6 0 (((fB ++ [(⟨2,op,((cj).length:Int),cW,0,0⟩:Cell)]) ++ [(⟨1,0,(((cj ++ [width])).length:Int),[],gK 1 0,0⟩:Cell)]).length),.aL 303 1 0 fh.length,.v (.slice none 0 0),.v (.slice none 0 0),.v (.slice none 0 0),.v (.slice none 0 0),vi (((cj ++ [width]).length:Nat):Int),vi (((cj ++ [width]).length:Nat):Int),.v (.slice none 0 0)]),(301,.rows 1 (((cj ++ [width]) ++ [1]).map ah)),(302,.rows 6 (((fB ++ [(⟨2,op,((cj).length:Int),cW,0,0⟩:Cell)]) ++ [(⟨1,0,(((cj ++ [width])).length:Int),[],gK 1 0,0⟩:Cell)]).map Cell.row)),(303,.rows 1 (fh.map ah))]⟩) (Le.mk (.c2 (.c (.c .nil))) (.c2 (.c (.c .nil)))) ?_
 refine .seq (.seq (.sh (Sh.rY 119 301 1 U U U (aU aG) (cC.map aI) ae U U U) (.sh (Sh.rY 119 302 2 U U U (aU om) (cC.map Cell.bA) ae U U U) (.sh (Sh.rY 119 303 3 U U U (aU om) (cC.map aI) ae U U U) (.sh (Sh.u4 119 5 4 U U U) (.sh (Sh.u4 119 3 5 U U U) (.sh (Sh.u4 119 1 6 U U U) (.sh (Sh.u4 119 1 7 U U U) (.sh (Sh.u4 119 1 10 U U U) ?_)))))))))
 have hN:(⟨ByteArray.empty,(cj ++ [width]) ++ [1],(fB ++ [(⟨2,op,((cj).length:Int),cW,0,0⟩:Cell)]) ++ [(⟨1,0,(((cj ++ [width])).length:Int),[],gK 1 0,0⟩:Cell)],fh,([]:List eA),([]:List bE),([]:List Int),([]:List Int),(((cj ++ [width]).length:Nat):Int),(((cj ++ [width]).length:Nat):Int),([]:List Int)⟩:ab) = j0 op ws width:=by obtain ⟨h1,h2,h3,h4⟩:=hP; rw [h1,h2,h3,h4,show fU = ws.length by omega,List.take_length]; simp [j0,uT,l5,gK]
 refine .region (.mv ?_)
 refine .vl (Y.zm U U) (.fa jg ?_)
 refine .vl (Y.zb gm U U (aH U) U U) (.aZ Tg (AJ (n:=(⟨ByteArray.empty,(cj ++ [width]) ++ [1],(fB ++ [(⟨2,op,((cj).length:Int),cW,0,0⟩:Cell)]) ++ [(⟨1,0,(((cj ++ [width])).length:Int),[],gK 1 0,0⟩:Cell)],fh,([]:List eA),([]:List bE),([]:List Int),([]:List Int),(((cj ++ [width]).length:Nat):Int),(((cj ++ [width]).length:Nat):Int),([]:List Int)⟩:ab)) (by rw [hN]; exact FH hk) (by rw [hN]; simp [j0]; omega)) U (.aj U U .nil) ae U ?_)
 refine .vl (Y.zl U U) (.nil (.le (aY:=⟨[(0,vi op),(1,.fz 1 (ws.map ah)),(2,vi width),(80,.v (.bool (decide ((mH (⟨ByteArray.empty,(cj ++ [width]) ++ [1],(fB ++ [(⟨2,op,((cj).length:Int),cW,0,0⟩:Cell)]) ++ [(⟨1,0,(((cj ++ [width])).length:Int),[],gK 1 0,0⟩:Cell)],fh,([]:List eA),([]:List bE),([]:List Int),([]:List Int),(((cj ++ [width]).length:Nat):Int),(((cj ++ [width]).length:Nat):Int),([]:List Int)⟩:ab)) ≠ 0))))],[]⟩) (Le.mk (.c2 (.c (.c .nil))) .nil) ?_))
 refine .aA U (fun Jb=>?_) (fun Jb=>?_)
 have hC:¬ CZ op ws width:=fun h=>Jb (by rw [hN]; exact P4 hk h)
 refine .sr (.an ?_)
 refine .an ?_
 refine .an ?_
 refine .nil (.sh (Sh.v9 (d:=6) 3 U) (.sh (Sh.v9 (d:=7) 1 U) (.ret (⟨_,_,U,U,[],[],13,.inr (.inl ⟨by simpa using DG,hC,U⟩),U,U⟩))))
 have hC:CZ op ws width:=I7 (by rw [hN] at Jb; exact Classical.not_not.1 Jb)
 refine .skip (.le (aY:=⟨[(0,.v (.int .i64 op)),(1,.fz 1 (ws.map ah)),(2,.v (.int .i64 width))],[]⟩) (Le.mk (.c2 (.c .nil)) .nil) (.sr (.vl (Y.qh JE JI U U U) (.box 182 U U U U U ae ?_))))
 refine .an ?_
 refine .nil (.seq (.sh (Sh.eu 182 401 3 0 U U U U ae) (.region (.an ?_))))
 refine .sh (Sh.nil (d:=15) 115 1 U ae) (.nil (.le (aY:=⟨[(0,vi op),(1,.fz 1 (ws.map ah)),(2,vi width),(14,.ptr 182 0 0 0),(15,.aL 115 1 0 0)],[(115,.rows 1 (([]:List (List Int)).map dc)),(182,.cells [.aL 401 3 0 0]),(401,.rows 3 (([]:List Gate).map Gate.row))]⟩) (Le.mk (.c4 (.c .nil)) (.c2 (.c .nil))) ?_))
 refine .seq (.sr (.mv ?_))
 refine .vl (Y.qx (n:=ws.length) a7 U (congrArg some (List.length_map ..))) (.mv ?_)
 refine .nil (.block (.eh (fun (fN:Nat) (dM:List (List Int)) (a8:List Gate)=>⟨[(0,vi op),(2,vi width),(14,.ptr 182 0 0 0),(15,.aL 115 1 0 dM.length),(83,.fz 1 (ws.map ah)),(84,vi ws.length),(85,vi fN)],[(115,.rows 1 (dM.map dc)),(182,.cells [.aL 401 3 0 a8.length]),(401,.rows 3 (a8.map Gate.row))]⟩) (fun fN dM a8=>((fN:Int) <= (ws.length:Int)) /\ (a8 = pJ (gR ws fN) /\ dM = wL ws fN)) (fun fN dM a8=>((ws.length:Int) - (fN:Int)).toNat) 0 ([]:List (List Int)) ([]:List Gate) (⟨mz,⟨U,U⟩⟩) (Le.mk (.c2 (.c (.cons (aN U aG) (.c2 (.cons (ak U bc) .nil))))) (.c (.cons (ay U eR) (.c .nil)))) (fun fN dM a8 Gz=>?_)))
 obtain ⟨Qt,hQ⟩:=Gz
 refine .sr (.vl (Y.zc U U) (.nil (.seq (.aA U (fun TV=>?_) (fun TV=>?_)))))
 refine .skip (.seq (.block (.sr (.vl (Y.qs (m:=fN) a7 U U bc (ao (d:=0) om)) (.ld bj ?_)))))
 refine .an (.nil ?_)
 have MF:=hC.1 (ws.getD fN 0) (getD_in om); unfold dz at MF; have Dz:=FI hC; have hof:=pM (ws:=ws) (i:=fN) (j:=ws.length) om; have Vf:a8.length = gR ws fN:=(by rw [hQ.1,kC]); have Zw:dM.length = fN:=(by rw [hQ.2,uU])
 refine .region (.mv ?_)
 refine .mv ?_
 refine .mv ?_
 refine .bw [182,401] [] OT (sd (gl:=a8) (x:=ws.getD fN 0) om om) U (.named U U (.aj U U .nil)) ⟨U,U,trivial⟩ U ae (fun _ h=>by cases h) (fun _ h=>by cases h) ae ae ?_
 rintro r aJ ⟨rfl,rfl⟩ _
 refine ⟨⟨rfl,(by intro ob aW; simp only [List.mem_cons,List.not_mem_nil,or_false] at aW; rcases aW with rfl | rfl <;> rfl),.inl rfl⟩,(.sh (Sh.cG (d:=92) ((pI a8.length (ws.getD fN 0).toNat).map ah) U iJ (cC.map aI)) (.buildSlice (([pI a8.length (ws.getD fN 0).toNat]:List (List Int)).map dc) dI pX U U U U U (aq (s:=1) (f:=dc) (fun _=>U)) U U U ae ?_))⟩
 refine .cL dc (dM ++ ([pI a8.length (ws.getD fN 0).toNat]:List (List Int))) dI pX U U U U (bg aG) (aR aG) (bz aG) aG aG ae ae ?_
 refine .an (.nil (.region ?_))
 refine .vl (Y.qb U U aG) (.mv ?_)
 refine .nil (⟨fN + 1,dM ++ ([pI a8.length (ws.getD fN 0).toNat]:List (List Int)),a8 ++ pJ (ws.getD fN 0).toNat,⟨om,⟨by rw [hQ.1,BY]; rfl,by rw [I8,<- hQ.2,Vf]⟩⟩,om,Le.mk (.c2 (.c (.cons (aN U om) (.c2 (.cons (ak U bc) .nil))))) (.c (.cons (ay U eR) (.c .nil)))⟩)
 refine .exit (.le (aY:=⟨[(0,vi op),(2,vi width),(14,.ptr 182 0 0 0),(15,.aL 115 1 0 dM.length)],[(115,.rows 1 (dM.map dc)),(182,.cells [.aL 401 3 0 a8.length]),(401,.rows 3 (a8.map Gate.row))]⟩) (Le.mk (.c2 (.c (.c .nil))) (.c2 (.c .nil))) (.seq (.sh (Sh.dA (d:=15) (o:=115) U U (aU om) ae) (.sh (Sh.cG (d:=15) (dM.map dc) U iJ (cC.map lO)) ?_))))
 have Rf:fN = ws.length:=om; have RT:a8 = pJ (gR ws ws.length):=(by rw [hQ.1,Rf]); have R5:dM = wL ws ws.length:=(by rw [hQ.2,Rf]); have hIn:=P5 (c:=0) hC ae; rw [<- RT,<- R5] at hIn; have v3:=hC.2.1; unfold dz at v3; have Dz:=FI hC; have Vf:a8.length = gR ws ws.length:=(by rw [RT,kC]); have Zw:dM.length = ws.length:=(by rw [R5,uU])
 refine .region (.mv ?_)
 refine .mv ?_
 refine .mv ?_
 refine .mv ?_
 refine .bw [182,401] [] OU (pv (c:=0) (gl:=a8) (op:=op) (ws:=dM) (width:=width) (by rw [RT]; exact rV _) om hIn om om) U (.named U U (.aj U U (.aj U U (.aj U U .nil)))) ⟨U,U,trivial⟩ U ae (fun _ h=>by cases h) (fun _ h=>by cases h) ae ae ?_
 rintro r aJ ⟨Vg,Mb,Qu,Vh,Qv,rfl,rfl⟩ _
 refine ⟨⟨rfl,(by intro ob aW; simp only [List.mem_cons,List.not_mem_nil,or_false] at aW; rcases aW with rfl | rfl <;> rfl),.inl rfl⟩,(.bQ U ae (.nil (.sr (.mv ?_))))⟩
 refine .vl (Y.zm U U) (.fa nY ?_)
 refine .ld uG ?_
 refine .oR U ae ?_
 refine .an ?_
 refine .sh (Sh.dA (d:=6) (o:=401) U U (aU om) ae) (.bQ U ae ?_)
 refine .an (.nil (.ret ?_))
 exact ⟨_,_,U,U,Vg,Mb,0,.inr (.inr ⟨by simpa using DG,hC,U,by rw [<- RT]; exact Qu,om,Qv⟩),U,U⟩
open Go Go.AW Go.Proofs
theorem wA{l:List Gate}(hl:l.length <= 1000000):aw Try.prog 37 [.fz 3 (l.map Gate.row)] [] [] (fun r o=>r = (vi ((iZ l:Nat):Int)) /\ o = []):=by
 refine aw.of Try.func37 U U U (n:=20) ae (aH U) (.sr (.an (.nil (.sr ?_))))
 refine .an ?_
 refine .nil (.seq (.sr (.an (.nil (.block ?_)))))
 refine .iD (fun (AR:Nat) (dO:Nat)=>⟨[(0,.fz 3 (l.map Gate.row)),(3,vi AR),(4,vi dO)],[]⟩) (fun AR dO=>((dO:Int) <= (l.length:Int)) /\ (AR = iZ (l.take dO))) (fun AR dO=>((l.length:Int) - (dO:Int)).toNat) 0 0 (⟨om,U⟩) (Le.mk (.c (.cons (ak U bc) (.cons (ak U bc) .nil))) .nil) (fun AR dO qR=>?_)
 obtain ⟨Fc,hn⟩:=qR
 refine .seq (.sr (.mv ?_))
 refine .mv ?_
 refine .vl (Y.qx (n:=l.length) rN U (congrArg some (List.length_map ..))) (.vl (Y.zc U U) (.nil (.aA U (fun c8=>?_) (fun c8=>?_))))
 refine .skip (.iC (fun (yM:Nat)=>⟨[(0,.fz 3 (l.map Gate.row)),(3,vi yM),(4,vi dO)],[]⟩) (fun yM=>yM = iZ (l.take (dO + 1))) ?_ (fun yM yA=>?_))
 refine .block (.seq ?_)
 have zG:=Ao (l.take dO); rw [List.length_take] at zG
 refine .region (.mv ?_)
 refine .mv ?_
 refine .vl (Y.qs (m:=dO) rN U U bc (ao (d:=default) om)) (.fa eT ?_)
 refine .ld bj ?_
 refine .vl (Y.ql U U) (.nil (.aA U (fun y6=>?_) (fun y6=>?_)))
 refine .region (.mv ?_)
 refine .vl (Y.qb U U aG) (.an ?_)
 refine .nil ⟨AR + 1,by rw [cJ om,if_pos ej,hn],Le.mk (.c (.cons (ak U bc) (.c .nil))) .nil⟩
 refine .skip ⟨AR,by rw [cJ om,if_neg ej,hn,Nat.add_zero],Le.mk (.c (.cons (ak U bc) (.c .nil))) .nil⟩
 refine .region (.mv ?_)
 refine .vl (Y.qb U U aG) (.an ?_)
 refine .nil (⟨yM,dO + 1,⟨om,yA⟩,om,Le.mk (.c (.cons (ak U bc) (.cons (ak U bc) .nil))) .nil⟩)
 refine .exit (.sr (.mv ?_))
 refine .an (.nil (.ret ?_))
 exact ⟨_,_,U,U,by rw [hn,show dO = l.length by omega,List.take_length]; rfl,U⟩
theorem se :aw Try.prog 30 [] [] [] (fun r o=>r = .v (.bool true) /\ o = []):=by
 refine aw.of Try.func30 U U U (n:=36) ae (Nat.zero_le _) (.sr (.an (.nil (.sr ?_))))
 refine .buildSlice (([1,1]:List Int).map ah) a7 dD U U U U U (aq (s:=1) (f:=ah) (fun _=>U)) U U U ae ?_
 refine .sh (Sh.cG (d:=5) (([1,1]:List Int).map ah) U iJ (cC.map aI)) (.oP SY (Gy (op:=11) (ws:=([1,1]:List Int)) (width:=1) ae) U (.aj U U (.aj U U (.aj U U .nil))) ae ?_)
 rintro _ ⟨l6,Qw,e6,Zx,rfl,_⟩
 refine ⟨U,(.oR U ae (.iX U U ae (.iX U U ae ?_)))⟩
 refine .vl (Y.qn U U U) (.bQ U ae (.sh (Sh.cG (d:=1) (l6.map Gate.row) U iJ (cC.map Gate.bA)) (.bQ U ae (.sh (Sh.cG (d:=2) (Qw.map ah) U iJ (cC.map aI)) (.an (.nil (.seq ?_)))))))
 have hw:=FJ Zx; have X3:=hw.2.2.1; have vy:=hw.2.2.2.2
 refine .region (.mv ?_)
 refine .vl (Y.ql U U) (.mv ?_)
 refine .aC (d:=12) U (fun Ci=>?_) (fun Ci=>?_)
 refine .gw 12 (Y.zh U U) (.gw 12 (Y.qx (n:=Qw.length) a7 U (congrArg some (List.length_map ..))) (.gw 12 (Y.ql U U) (.pk ?_)))
 refine .mv ?_
 refine .aC (d:=17) U (fun RG=>?_) (fun RG=>?_)
 refine .gw 17 (Y.zh U U) (.gw 17 (Y.qs (m:=0) a7 U U bc (ao (d:=0) om)) (.gw 17 (Y.za bj U U U U) (.gw 17 (Y.qq U U) (.pk ?_))))
 refine .mv ?_
 refine .aC (d:=23) U (fun y9=>?_) (fun y9=>?_)
 refine .gw 23 (Y.zh U U) (.gw 23 (Y.qs (m:=0) a7 U U bc (ao (d:=0) om)) (.gw 23 (Y.za bj U U U U) (.gw 23 (Y.zh U U) (.gw 23 (Y.qx (n:=l6.length) rN U (congrArg some (List.length_map ..))) (.gw 23 (Y.zc U U) (.pk ?_))))))
 refine .mv ?_
 refine .aC (d:=31) U (fun MQ=>?_) (fun MQ=>?_)
 refine .gw 31 (Y.zh U U) (.bn (d:=31) U ae U ?_)
 refine .aZ OS (wA (l:=l6) (om)) U (.aj U U .nil) ae U (.gw 31 (Y.ql U U) (.pk ?_))
 refine .an (.nil (.ret ?_))
 exact .rb rfl (decide_eq_true (by rw [hw.2.2.2.1]; rfl))
 exact absurd X3.2 MQ
 exact absurd X3.1 y9
 exact absurd (by rw [hw.2.1]; rfl) RG
 exact absurd hw.1 Ci
open Go Go.AW Go.Proofs
theorem xo{l:List Gate}(hl:l.length <= 1000000):aw Try.prog 33 [.fz 3 (l.map Gate.row)] [] [] (fun r o=>r = .v (.bool (decide (Ce l))) /\ o = []):=by
 refine aw.of Try.func33 U U U (n:=71) ae (aH U) (.sr (.an ?_))
 refine .nil (.seq (.sr (.an (.nil (.block ?_)))))
 refine .jt (fun (cX:Nat)=>⟨[(0,.fz 3 (l.map Gate.row)),(3,vi cX)],[]⟩) (fun cX=>((cX:Int) <= (l.length:Int)) /\ (∀ j,j < cX -> lW j (l.getD j default))) (fun cX=>((l.length:Int) - (cX:Int)).toNat) 0 (⟨om,fun j hj=>by omega⟩) (Le.mk (.c (.cons (ak U bc) .nil)) .nil) (fun cX CB=>?_)
 obtain ⟨DX,hG⟩:=CB
 refine .seq (.sr (.mv ?_))
 refine .mv ?_
 refine .vl (Y.qx (n:=l.length) rN U (congrArg some (List.length_map ..))) (.vl (Y.zc U U) (.nil (.aA U (fun c8=>?_) (fun c8=>?_))))
 refine .skip ?_
 refine .Bt (fun (AS:Bool) (AT:Bool) (AU:Bool) (AV:Bool)=>⟨[(0,.fz 3 (l.map Gate.row)),(3,vi cX),(19,.ptr 104 0 0 0),(20,vi ((l.getD cX default).kind)),(21,.v (.bool (decide (7 < ((l.getD cX default).kind))))),(32,.ptr 104 0 0 0),(33,vi ((l.getD cX default).kind)),(34,.v (.bool (decide (((l.getD cX default).kind) < 5)))),(35,.v (.bool AS)),(39,.v (.bool AT)),(56,.ptr 104 0 0 0),(57,vi ((l.getD cX default).kind)),(58,.v (.bool (decide (5 <= ((l.getD cX default).kind))))),(59,.v (.bool AU)),(69,.v (.bool AV))],[(104,.cells [vi ((l.getD cX default).kind),vi ((l.getD cX default).a),vi ((l.getD cX default).b)])]⟩) (fun AS AT AU AV=>lW cX (l.getD cX default)) ?_ (fun AS AT AU AV Zy=>?_)
 refine .block (.sr (.mv ?_))
 refine .mv ?_
 refine .vl (Y.qs (m:=cX) rN U U bc (ao (d:=default) om)) (.vl (Y.zb JG U U (aH U) U U) (.alloc 104 yg U U ae (.ai JH U U U U U U (aH U) U ?_)))
 refine .nil (.seq (.sr (.fa eT ?_)))
 refine .ld bj ?_
 refine .vl (Y.zc U U) (.mv ?_)
 refine .aC (d:=18) U (fun Un=>?_) (fun Un=>?_)
 refine .gz 18 (.gz 18 (.gz 18 (.pk ?_)))
 refine .nil (.aO U (.sr (.an (.nil (.ret ?_)))))
 exact .rb rfl (df (fun h=>by have h1:=aX.1 (h cX om); omega))
 refine .gw 18 (Y.qp eT U U) (.gw 18 (Y.za bj U U U U) (.gw 18 (Y.qr U U) (.pk ?_)))
 refine .nil (.aA U (fun pa=>?_) (fun pa=>?_))
 refine .sr (.an (.nil (.ret ?_)))
 exact .rb rfl (df (fun h=>by have h1:=aX.1 (h cX om); omega))
 refine .skip (.seq (.sr (.fa eT ?_)))
 refine .ld bj ?_
 refine .vl (Y.zc U U) (.mv ?_)
 refine .aC (d:=26) U (fun AO=>?_) (fun AO=>?_)
 refine .gw 26 (Y.qp iy U U) (.gw 26 (Y.za bj U U U U) (.gw 26 (Y.zl U U) (.pk ?_)))
 refine .mv ?_
 refine .aC (d:=31) U (fun MQ=>?_) (fun MQ=>?_)
 refine .gz 31 (.gz 31 (.gz 31 (.gz 31 (.gz 35 (.gz 35 (.gz 35 (.gz 31 (.pk ?_))))))))
 refine .nil (.aO U (.sr (.an (.nil (.ret ?_)))))
 exact .rb rfl (df (fun h=>by have h1:=aX.1 (h cX om); omega))
 refine .gw 31 (Y.qp eT U U) (.gw 31 (Y.za bj U U U U) (.gw 31 (Y.zc U U) (.gw 31 (Y.zh U U) (.aC (d:=35) U (fun vE=>?_) (fun vE=>?_)))))
 refine .gw 35 (Y.qp e8 U U) (.gw 35 (Y.za bj U U U U) (.gw 35 (Y.zl U U) (.gw 31 (Y.zo U U U) (.pk ?_))))
 refine .nil (.aA U (fun AK=>?_) (fun AK=>?_))
 refine .sr (.an (.nil (.ret ?_)))
 exact .rb rfl (df (fun h=>by have h1:=aX.1 (h cX om); omega))
 refine .skip (.sr (.fa eT ?_))
 refine .ld bj ?_
 refine .vl (Y.qq U U) (.mv ?_)
 refine .aC (d:=44) U (fun Jc=>?_) (fun Jc=>?_)
 refine .gw 44 (Y.qp iy U U) (.gw 44 (Y.za bj U U U U) (.gw 44 (Y.zc U U) (.gw 44 (Y.zh U U) (.aC (d:=48) U (fun Aw=>?_) (fun Aw=>?_)))))
 refine .gz 48 (.gz 48 (.gz 48 (.gz 48 (.gw 44 (Y.zo U U U) (.pk ?_)))))
 refine .mv ?_
 refine .gz 55 (.gz 55 (.gz 55 (.gz 55 (.gz 59 (.gz 59 (.gz 59 (.gz 59 (.gz 63 (.gz 63 (.gz 63 (.gz 63 (.gz 59 (.gz 55 (.pk ?_))))))))))))))
 refine .nil (.aO U (.sr (.an (.nil (.ret ?_)))))
 exact .rb rfl (df (fun h=>by have h1:=aX.1 (h cX om); omega))
 refine .gw 48 (Y.qp iy U U) (.gw 48 (Y.za bj U U U U) (.gw 48 (Y.zh U U) (.gw 48 (Y.qq U U) (.gw 44 (Y.zo U U U) (.pk ?_)))))
 refine .mv ?_
 refine .aC (d:=55) U (fun Mc=>?_) (fun Mc=>?_)
 refine .gz 55 (.gz 55 (.gz 55 (.gz 55 (.gz 59 (.gz 59 (.gz 59 (.gz 59 (.gz 63 (.gz 63 (.gz 63 (.gz 63 (.gz 59 (.gz 55 (.pk ?_))))))))))))))
 refine .nil (.aO U (.sr (.an (.nil (.ret ?_)))))
 exact .rb rfl (df (fun h=>by have h1:=aX.1 (h cX om); omega))
 refine .gw 55 (Y.qp eT U U) (.gw 55 (Y.za bj U U U U) (.gw 55 (Y.qq U U) (.gw 55 (Y.zh U U) (.aC (d:=59) U (fun vG=>?_) (fun vG=>?_)))))
 refine .gw 59 (Y.qp e8 U U) (.gw 59 (Y.za bj U U U U) (.gw 59 (Y.zc U U) (.gw 59 (Y.zh U U) (.aC (d:=63) U (fun sq=>?_) (fun sq=>?_)))))
 refine .gz 63 (.gz 63 (.gz 63 (.gz 63 (.gw 59 (Y.zo U U U) (.gw 55 (Y.zo U U U) (.pk ?_))))))
 refine .nil (.aO U (.sr (.an (.nil (.ret ?_)))))
 exact .rb rfl (df (fun h=>by have h1:=aX.1 (h cX om); omega))
 refine .gw 63 (Y.qp e8 U U) (.gw 63 (Y.za bj U U U U) (.gw 63 (Y.zh U U) (.gw 63 (Y.qq U U) (.gw 59 (Y.zo U U U) (.gw 55 (Y.zo U U U) (.pk ?_))))))
 refine .nil (.aA U (fun yO=>?_) (fun yO=>?_))
 refine .sr (.an (.nil (.ret ?_)))
 exact .rb rfl (df (fun h=>by have h1:=aX.1 (h cX om); omega))
 refine .skip ?_
 exact ⟨true,decide (((l.getD cX default).b) ≠ 0),true,decide ((cX:Int) <= ((l.getD cX default).b)),aX.2 (by refine ⟨om,?_,?_,?_,?_⟩ <;> intros <;> omega),Le.mk (.c8 (.cons (a9 U eG) (.cons (a9 U eG) (.c2 (.c (.cons (a9 U eG) (.cons (a9 U eG) .nil))))))) (.c .nil)⟩
 refine .gz 59 (.gz 59 (.gz 59 (.gz 59 (.gz 63 (.gz 63 (.gz 63 (.gz 63 (.gz 59 (.gw 55 (Y.zo U U U) (.pk ?_))))))))))
 refine .nil (.cZ U (.skip ?_))
 exact ⟨true,decide (((l.getD cX default).b) ≠ 0),false,false,aX.2 (by refine ⟨om,?_,?_,?_,?_⟩ <;> intros <;> omega),Le.mk (.c8 (.cons (a9 U eG) (.cons (a9 U eG) (.c2 (.c (.cons (a9 U eG) (.cons (a9 U eG) .nil))))))) (.c .nil)⟩
 refine .gz 44 (.gz 44 (.gz 44 (.gz 44 (.gz 48 (.gz 48 (.gz 48 (.gz 48 (.gz 44 (.pk ?_)))))))))
 refine .mv ?_
 refine .gw 55 (Y.qp eT U U) (.gw 55 (Y.za bj U U U U) (.gw 55 (Y.qq U U) (.gw 55 (Y.zh U U) (.aC (d:=59) U (fun vG=>?_) (fun vG=>?_)))))
 refine .gw 59 (Y.qp e8 U U) (.gw 59 (Y.za bj U U U U) (.gw 59 (Y.zc U U) (.gw 59 (Y.zh U U) (.aC (d:=63) U (fun sq=>?_) (fun sq=>?_)))))
 refine .gz 63 (.gz 63 (.gz 63 (.gz 63 (.gw 59 (Y.zo U U U) (.gw 55 (Y.zo U U U) (.pk ?_))))))
 refine .nil (.aO U (.sr (.an (.nil (.ret ?_)))))
 exact .rb rfl (df (fun h=>by have h1:=aX.1 (h cX om); omega))
 refine .gw 63 (Y.qp e8 U U) (.gw 63 (Y.za bj U U U U) (.gw 63 (Y.zh U U) (.gw 63 (Y.qq U U) (.gw 59 (Y.zo U U U) (.gw 55 (Y.zo U U U) (.pk ?_))))))
 refine .nil (.aA U (fun yO=>?_) (fun yO=>?_))
 refine .sr (.an (.nil (.ret ?_)))
 exact .rb rfl (df (fun h=>by have h1:=aX.1 (h cX om); omega))
 refine .skip ?_
 exact ⟨true,decide (((l.getD cX default).b) ≠ 0),true,decide ((cX:Int) <= ((l.getD cX default).b)),aX.2 (by refine ⟨om,?_,?_,?_,?_⟩ <;> intros <;> omega),Le.mk (.c8 (.cons (a9 U eG) (.cons (a9 U eG) (.c2 (.c (.cons (a9 U eG) (.cons (a9 U eG) .nil))))))) (.c .nil)⟩
 refine .gz 59 (.gz 59 (.gz 59 (.gz 59 (.gz 63 (.gz 63 (.gz 63 (.gz 63 (.gz 59 (.gw 55 (Y.zo U U U) (.pk ?_))))))))))
 refine .nil (.cZ U (.skip ?_))
 exact ⟨true,decide (((l.getD cX default).b) ≠ 0),false,false,aX.2 (by refine ⟨om,?_,?_,?_,?_⟩ <;> intros <;> omega),Le.mk (.c8 (.cons (a9 U eG) (.cons (a9 U eG) (.c2 (.c (.cons (a9 U eG) (.cons (a9 U eG) .nil))))))) (.c .nil)⟩
 refine .gz 35 (.gz 35 (.gz 35 (.gw 31 (Y.zo U U U) (.pk ?_))))
 refine .nil (.cZ U (.skip (.sr (.fa eT ?_))))
 refine .ld bj ?_
 refine .vl (Y.qq U U) (.mv ?_)
 refine .aC (d:=44) U (fun Jc=>?_) (fun Jc=>?_)
 refine .gw 44 (Y.qp iy U U) (.gw 44 (Y.za bj U U U U) (.gw 44 (Y.zc U U) (.gw 44 (Y.zh U U) (.aC (d:=48) U (fun Aw=>?_) (fun Aw=>?_)))))
 refine .gz 48 (.gz 48 (.gz 48 (.gz 48 (.gw 44 (Y.zo U U U) (.pk ?_)))))
 refine .mv ?_
 refine .gz 55 (.gz 55 (.gz 55 (.gz 55 (.gz 59 (.gz 59 (.gz 59 (.gz 59 (.gz 63 (.gz 63 (.gz 63 (.gz 63 (.gz 59 (.gz 55 (.pk ?_))))))))))))))
 refine .nil (.aO U (.sr (.an (.nil (.ret ?_)))))
 exact .rb rfl (df (fun h=>by have h1:=aX.1 (h cX om); omega))
 refine .gw 48 (Y.qp iy U U) (.gw 48 (Y.za bj U U U U) (.gw 48 (Y.zh U U) (.gw 48 (Y.qq U U) (.gw 44 (Y.zo U U U) (.pk ?_)))))
 refine .mv ?_
 refine .aC (d:=55) U (fun Mc=>?_) (fun Mc=>?_)
 refine .gz 55 (.gz 55 (.gz 55 (.gz 55 (.gz 59 (.gz 59 (.gz 59 (.gz 59 (.gz 63 (.gz 63 (.gz 63 (.gz 63 (.gz 59 (.gz 55 (.pk ?_))))))))))))))
 refine .nil (.aO U (.sr (.an (.nil (.ret ?_)))))
 exact .rb rfl (df (fun h=>by have h1:=aX.1 (h cX om); omega))
 refine .gw 55 (Y.qp eT U U) (.gw 55 (Y.za bj U U U U) (.gw 55 (Y.qq U U) (.gw 55 (Y.zh U U) (.aC (d:=59) U (fun vG=>?_) (fun vG=>?_)))))
 refine .gw 59 (Y.qp e8 U U) (.gw 59 (Y.za bj U U U U) (.gw 59 (Y.zc U U) (.gw 59 (Y.zh U U) (.aC (d:=63) U (fun sq=>?_) (fun sq=>?_)))))
 refine .gz 63 (.gz 63 (.gz 63 (.gz 63 (.gw 59 (Y.zo U U U) (.gw 55 (Y.zo U U U) (.pk ?_))))))
 refine .nil (.aO U (.sr (.an (.nil (.ret ?_)))))
 exact .rb rfl (df (fun h=>by have h1:=aX.1 (h cX om); omega))
 refine .gw 63 (Y.qp e8 U U) (.gw 63 (Y.za bj U U U U) (.gw 63 (Y.zh U U) (.gw 63 (Y.qq U U) (.gw 59 (Y.zo U U U) (.gw 55 (Y.zo U U U) (.pk ?_))))))
 refine .nil (.aA U (fun yO=>?_) (fun yO=>?_))
 refine .sr (.an (.nil (.ret ?_)))
 exact .rb rfl (df (fun h=>by have h1:=aX.1 (h cX om); omega))
 refine .skip ?_
 exact ⟨false,false,true,decide ((cX:Int) <= ((l.getD cX default).b)),aX.2 (by refine ⟨om,?_,?_,?_,?_⟩ <;> intros <;> omega),Le.mk (.c8 (.cons (a9 U eG) (.cons (a9 U eG) (.c2 (.c (.cons (a9 U eG) (.cons (a9 U eG) .nil))))))) (.c .nil)⟩
 refine .gz 59 (.gz 59 (.gz 59 (.gz 59 (.gz 63 (.gz 63 (.gz 63 (.gz 63 (.gz 59 (.gw 55 (Y.zo U U U) (.pk ?_))))))))))
 refine .nil (.cZ U (.skip ?_))
 exact ⟨false,false,false,false,aX.2 (by refine ⟨om,?_,?_,?_,?_⟩ <;> intros <;> omega),Le.mk (.c8 (.cons (a9 U eG) (.cons (a9 U eG) (.c2 (.c (.cons (a9 U eG) (.cons (a9 U eG) .nil))))))) (.c .nil)⟩
 refine .gz 44 (.gz 44 (.gz 44 (.gz 44 (.gz 48 (.gz 48 (.gz 48 (.gz 48 (.gz 44 (.pk ?_)))))))))
 refine .mv ?_
 refine .gw 55 (Y.qp eT U U) (.gw 55 (Y.za bj U U U U) (.gw 55 (Y.qq U U) (.gw 55 (Y.zh U U) (.aC (d:=59) U (fun vG=>?_) (fun vG=>?_)))))
 refine .gw 59 (Y.qp e8 U U) (.gw 59 (Y.za bj U U U U) (.gw 59 (Y.zc U U) (.gw 59 (Y.zh U U) (.aC (d:=63) U (fun sq=>?_) (fun sq=>?_)))))
 refine .gz 63 (.gz 63 (.gz 63 (.gz 63 (.gw 59 (Y.zo U U U) (.gw 55 (Y.zo U U U) (.pk ?_))))))
 refine .nil (.aO U (.sr (.an (.nil (.ret ?_)))))
 exact .rb rfl (df (fun h=>by have h1:=aX.1 (h cX om); omega))
 refine .gw 63 (Y.qp e8 U U) (.gw 63 (Y.za bj U U U U) (.gw 63 (Y.zh U U) (.gw 63 (Y.qq U U) (.gw 59 (Y.zo U U U) (.gw 55 (Y.zo U U U) (.pk ?_))))))
 refine .nil (.aA U (fun yO=>?_) (fun yO=>?_))
 refine .sr (.an (.nil (.ret ?_)))
 exact .rb rfl (df (fun h=>by have h1:=aX.1 (h cX om); omega))
 refine .skip ?_
 exact ⟨false,false,true,decide ((cX:Int) <= ((l.getD cX default).b)),aX.2 (by refine ⟨om,?_,?_,?_,?_⟩ <;> intros <;> omega),Le.mk (.c8 (.cons (a9 U eG) (.cons (a9 U eG) (.c2 (.c (.cons (a9 U eG) (.cons (a9 U eG) .nil))))))) (.c .nil)⟩
 refine .gz 59 (.gz 59 (.gz 59 (.gz 59 (.gz 63 (.gz 63 (.gz 63 (.gz 63 (.gz 59 (.gw 55 (Y.zo U U U) (.pk ?_))))))))))
 refine .nil (.cZ U (.skip ?_))
 exact ⟨false,false,false,false,aX.2 (by refine ⟨om,?_,?_,?_,?_⟩ <;> intros <;> omega),Le.mk (.c8 (.cons (a9 U eG) (.cons (a9 U eG) (.c2 (.c (.cons (a9 U eG) (.cons (a9 U eG) .nil))))))) (.c .nil)⟩
 refine .gz 26 (.gz 26 (.gz 26 (.pk ?_)))
 refine .mv ?_
 refine .gw 31 (Y.qp eT U U) (.gw 31 (Y.za bj U U U U) (.gw 31 (Y.zc U U) (.gw 31 (Y.zh U U) (.aC (d:=35) U (fun vE=>?_) (fun vE=>?_)))))
 refine .gw 35 (Y.qp e8 U U) (.gw 35 (Y.za bj U U U U) (.gw 35 (Y.zl U U) (.gw 31 (Y.zo U U U) (.pk ?_))))
 refine .nil (.aA U (fun AK=>?_) (fun AK=>?_))
 refine .sr (.an (.nil (.ret ?_)))
 exact .rb rfl (df (fun h=>by have h1:=aX.1 (h cX om); omega))
 refine .skip (.sr (.fa eT ?_))
 refine .ld bj ?_
 refine .vl (Y.qq U U) (.mv ?_)
 refine .aC (d:=44) U (fun Jc=>?_) (fun Jc=>?_)
 refine .gw 44 (Y.qp iy U U) (.gw 44 (Y.za bj U U U U) (.gw 44 (Y.zc U U) (.gw 44 (Y.zh U U) (.aC (d:=48) U (fun Aw=>?_) (fun Aw=>?_)))))
 refine .gz 48 (.gz 48 (.gz 48 (.gz 48 (.gw 44 (Y.zo U U U) (.pk ?_)))))
 refine .mv ?_
 refine .gz 55 (.gz 55 (.gz 55 (.gz 55 (.gz 59 (.gz 59 (.gz 59 (.gz 59 (.gz 63 (.gz 63 (.gz 63 (.gz 63 (.gz 59 (.gz 55 (.pk ?_))))))))))))))
 refine .nil (.aO U (.sr (.an (.nil (.ret ?_)))))
 exact .rb rfl (df (fun h=>by have h1:=aX.1 (h cX om); omega))
 refine .gw 48 (Y.qp iy U U) (.gw 48 (Y.za bj U U U U) (.gw 48 (Y.zh U U) (.gw 48 (Y.qq U U) (.gw 44 (Y.zo U U U) (.pk ?_)))))
 refine .mv ?_
 refine .aC (d:=55) U (fun Mc=>?_) (fun Mc=>?_)
 refine .gz 55 (.gz 55 (.gz 55 (.gz 55 (.gz 59 (.gz 59 (.gz 59 (.gz 59 (.gz 63 (.gz 63 (.gz 63 (.gz 63 (.gz 59 (.gz 55 (.pk ?_))))))))))))))
 refine .nil (.aO U (.sr (.an (.nil (.ret ?_)))))
 exact .rb rfl (df (fun h=>by have h1:=aX.1 (h cX om); omega))
 refine .gw 55 (Y.qp eT U U) (.gw 55 (Y.za bj U U U U) (.gw 55 (Y.qq U U) (.gw 55 (Y.zh U U) (.aC (d:=59) U (fun vG=>?_) (fun vG=>?_)))))
 refine .gw 59 (Y.qp e8 U U) (.gw 59 (Y.za bj U U U U) (.gw 59 (Y.zc U U) (.gw 59 (Y.zh U U) (.aC (d:=63) U (fun sq=>?_) (fun sq=>?_)))))
 refine .gz 63 (.gz 63 (.gz 63 (.gz 63 (.gw 59 (Y.zo U U U) (.gw 55 (Y.zo U U U) (.pk ?_))))))
 refine .nil (.aO U (.sr (.an (.nil (.ret ?_)))))
 exact .rb rfl (df (fun h=>by have h1:=aX.1 (h cX om); omega))
 refine .gw 63 (Y.qp e8 U U) (.gw 63 (Y.za bj U U U U) (.gw 63 (Y.zh U U) (.gw 63 (Y.qq U U) (.gw 59 (Y.zo U U U) (.gw 55 (Y.zo U U U) (.pk ?_))))))
 refine .nil (.aA U (fun yO=>?_) (fun yO=>?_))
 refine .sr (.an (.nil (.ret ?_)))
 exact .rb rfl (df (fun h=>by have h1:=aX.1 (h cX om); omega))
 refine .skip ?_
 exact ⟨true,decide (((l.getD cX default).b) ≠ 0),true,decide ((cX:Int) <= ((l.getD cX default).b)),aX.2 (by refine ⟨om,?_,?_,?_,?_⟩ <;> intros <;> omega),Le.mk (.c8 (.cons (a9 U eG) (.cons (a9 U eG) (.c2 (.c (.cons (a9 U eG) (.cons (a9 U eG) .nil))))))) (.c .nil)⟩
 refine .gz 59 (.gz 59 (.gz 59 (.gz 59 (.gz 63 (.gz 63 (.gz 63 (.gz 63 (.gz 59 (.gw 55 (Y.zo U U U) (.pk ?_))))))))))
 refine .nil (.cZ U (.skip ?_))
 exact ⟨true,decide (((l.getD cX default).b) ≠ 0),false,false,aX.2 (by refine ⟨om,?_,?_,?_,?_⟩ <;> intros <;> omega),Le.mk (.c8 (.cons (a9 U eG) (.cons (a9 U eG) (.c2 (.c (.cons (a9 U eG) (.cons (a9 U eG) .nil))))))) (.c .nil)⟩
 refine .gz 44 (.gz 44 (.gz 44 (.gz 44 (.gz 48 (.gz 48 (.gz 48 (.gz 48 (.gz 44 (.pk ?_)))))))))
 refine .mv ?_
 refine .gw 55 (Y.qp eT U U) (.gw 55 (Y.za bj U U U U) (.gw 55 (Y.qq U U) (.gw 55 (Y.zh U U) (.aC (d:=59) U (fun vG=>?_) (fun vG=>?_)))))
 refine .gw 59 (Y.qp e8 U U) (.gw 59 (Y.za bj U U U U) (.gw 59 (Y.zc U U) (.gw 59 (Y.zh U U) (.aC (d:=63) U (fun sq=>?_) (fun sq=>?_)))))
 refine .gz 63 (.gz 63 (.gz 63 (.gz 63 (.gw 59 (Y.zo U U U) (.gw 55 (Y.zo U U U) (.pk ?_))))))
 refine .nil (.aO U (.sr (.an (.nil (.ret ?_)))))
 exact .rb rfl (df (fun h=>by have h1:=aX.1 (h cX om); omega))
 refine .gw 63 (Y.qp e8 U U) (.gw 63 (Y.za bj U U U U) (.gw 63 (Y.zh U U) (.gw 63 (Y.qq U U) (.gw 59 (Y.zo U U U) (.gw 55 (Y.zo U U U) (.pk ?_))))))
 refine .nil (.aA U (fun yO=>?_) (fun yO=>?_))
 refine .sr (.an (.nil (.ret ?_)))
 exact .rb rfl (df (fun h=>by have h1:=aX.1 (h cX om); omega))
 refine .skip ?_
 exact ⟨true,decide (((l.getD cX default).b) ≠ 0),true,decide ((cX:Int) <= ((l.getD cX default).b)),aX.2 (by refine ⟨om,?_,?_,?_,?_⟩ <;> intros <;> omega),Le.mk (.c8 (.cons (a9 U eG) (.cons (a9 U eG) (.c2 (.c (.cons (a9 U eG) (.cons (a9 U eG) .nil))))))) (.c .nil)⟩
 refine .gz 59 (.gz 59 (.gz 59 (.gz 59 (.gz 63 (.gz 63 (.gz 63 (.gz 63 (.gz 59 (.gw 55 (Y.zo U U U) (.pk ?_))))))))))
 refine .nil (.cZ U (.skip ?_))
 exact ⟨true,decide (((l.getD cX default).b) ≠ 0),false,false,aX.2 (by refine ⟨om,?_,?_,?_,?_⟩ <;> intros <;> omega),Le.mk (.c8 (.cons (a9 U eG) (.cons (a9 U eG) (.c2 (.c (.cons (a9 U eG) (.cons (a9 U eG) .nil))))))) (.c .nil)⟩
 refine .gz 35 (.gz 35 (.gz 35 (.gw 31 (Y.zo U U U) (.pk ?_))))
 refine .nil (.cZ U (.skip (.sr (.fa eT ?_))))
 refine .ld bj ?_
 refine .vl (Y.qq U U) (.mv ?_)
 refine .aC (d:=44) U (fun Jc=>?_) (fun Jc=>?_)
 refine .gw 44 (Y.qp iy U U) (.gw 44 (Y.za bj U U U U) (.gw 44 (Y.zc U U) (.gw 44 (Y.zh U U) (.aC (d:=48) U (fun Aw=>?_) (fun Aw=>?_)))))
 refine .gz 48 (.gz 48 (.gz 48 (.gz 48 (.gw 44 (Y.zo U U U) (.pk ?_)))))
 refine .mv ?_
 refine .gz 55 (.gz 55 (.gz 55 (.gz 55 (.gz 59 (.gz 59 (.gz 59 (.gz 59 (.gz 63 (.gz 63 (.gz 63 (.gz 63 (.gz 59 (.gz 55 (.pk ?_))))))))))))))
 refine .nil (.aO U (.sr (.an (.nil (.ret ?_)))))
 exact .rb rfl (df (fun h=>by have h1:=aX.1 (h cX om); omega))
 refine .gw 48 (Y.qp iy U U) (.gw 48 (Y.za bj U U U U) (.gw 48 (Y.zh U U) (.gw 48 (Y.qq U U) (.gw 44 (Y.zo U U U) (.pk ?_)))))
 refine .mv ?_
 refine .aC (d:=55) U (fun Mc=>?_) (fun Mc=>?_)
 refine .gz 55 (.gz 55 (.gz 55 (.gz 55 (.gz 59 (.gz 59 (.gz 59 (.gz 59 (.gz 63 (.gz 63 (.gz 63 (.gz 63 (.gz 59 (.gz 55 (.pk ?_))))))))))))))
 refine .nil (.aO U (.sr (.an (.nil (.ret ?_)))))
 exact .rb rfl (df (fun h=>by have h1:=aX.1 (h cX om); omega))
 refine .gw 55 (Y.qp eT U U) (.gw 55 (Y.za bj U U U U) (.gw 55 (Y.qq U U) (.gw 55 (Y.zh U U) (.aC (d:=59) U (fun vG=>?_) (fun vG=>?_)))))
 refine .gw 59 (Y.qp e8 U U) (.gw 59 (Y.za bj U U U U) (.gw 59 (Y.zc U U) (.gw 59 (Y.zh U U) (.aC (d:=63) U (fun sq=>?_) (fun sq=>?_)))))
 refine .gz 63 (.gz 63 (.gz 63 (.gz 63 (.gw 59 (Y.zo U U U) (.gw 55 (Y.zo U U U) (.pk ?_))))))
 refine .nil (.aO U (.sr (.an (.nil (.ret ?_)))))
 exact .rb rfl (df (fun h=>by have h1:=aX.1 (h cX om); omega))
 refine .gw 63 (Y.qp e8 U U) (.gw 63 (Y.za bj U U U U) (.gw 63 (Y.zh U U) (.gw 63 (Y.qq U U) (.gw 59 (Y.zo U U U) (.gw 55 (Y.zo U U U) (.pk ?_))))))
 refine .nil (.aA U (fun yO=>?_) (fun yO=>?_))
 refine .sr (.an (.nil (.ret ?_)))
 exact .rb rfl (df (fun h=>by have h1:=aX.1 (h cX om); omega))
 refine .skip ?_
 exact ⟨false,false,true,decide ((cX:Int) <= ((l.getD cX default).b)),aX.2 (by refine ⟨om,?_,?_,?_,?_⟩ <;> intros <;> omega),Le.mk (.c8 (.cons (a9 U eG) (.cons (a9 U eG) (.c2 (.c (.cons (a9 U eG) (.cons (a9 U eG) .nil))))))) (.c .nil)⟩
 refine .gz 59 (.gz 59 (.gz 59 (.gz 59 (.gz 63 (.gz 63 (.gz 63 (.gz 63 (.gz 59 (.gw 55 (Y.zo U U U) (.pk ?_))))))))))
 refine .nil (.cZ U (.skip ?_))
 exact ⟨false,false,false,false,aX.2 (by refine ⟨om,?_,?_,?_,?_⟩ <;> intros <;> omega),Le.mk (.c8 (.cons (a9 U eG) (.cons (a9 U eG) (.c2 (.c (.cons (a9 U eG) (.cons (a9 U eG) .nil))))))) (.c .nil)⟩
 refine .gz 44 (.gz 44 (.gz 44 (.gz 44 (.gz 48 (.gz 48 (.gz 48 (.gz 48 (.gz 44 (.pk ?_)))))))))
 refine .mv ?_
 refine .gw 55 (Y.qp eT U U) (.gw 55 (Y.za bj U U U U) (.gw 55 (Y.qq U U) (.gw 55 (Y.zh U U) (.aC (d:=59) U (fun vG=>?_) (fun vG=>?_)))))
 refine .gw 59 (Y.qp e8 U U) (.gw 59 (Y.za bj U U U U) (.gw 59 (Y.zc U U) (.gw 59 (Y.zh U U) (.aC (d:=63) U (fun sq=>?_) (fun sq=>?_)))))
 refine .gz 63 (.gz 63 (.gz 63 (.gz 63 (.gw 59 (Y.zo U U U) (.gw 55 (Y.zo U U U) (.pk ?_))))))
 refine .nil (.aO U (.sr (.an (.nil (.ret ?_)))))
 exact .rb rfl (df (fun h=>by have h1:=aX.1 (h cX om); omega))
 refine .gw 63 (Y.qp e8 U U) (.gw 63 (Y.za bj U U U U) (.gw 63 (Y.zh U U) (.gw 63 (Y.qq U U) (.gw 59 (Y.zo U U U) (.gw 55 (Y.zo U U U) (.pk ?_))))))
 refine .nil (.aA U (fun yO=>?_) (fun yO=>?_))
 refine .sr (.an (.nil (.ret ?_)))
 exact .rb rfl (df (fun h=>by have h1:=aX.1 (h cX om); omega))
 refine .skip ?_
 exact ⟨false,false,true,decide ((cX:Int) <= ((l.getD cX default).b)),aX.2 (by refine ⟨om,?_,?_,?_,?_⟩ <;> intros <;> omega),Le.mk (.c8 (.cons (a9 U eG) (.cons (a9 U eG) (.c2 (.c (.cons (a9 U eG) (.cons (a9 U eG) .nil))))))) (.c .nil)⟩
 refine .gz 59 (.gz 59 (.gz 59 (.gz 59 (.gz 63 (.gz 63 (.gz 63 (.gz 63 (.gz 59 (.gw 55 (Y.zo U U U) (.pk ?_))))))))))
 refine .nil (.cZ U (.skip ?_))
 exact ⟨false,false,false,false,aX.2 (by refine ⟨om,?_,?_,?_,?_⟩ <;> intros <;> omega),Le.mk (.c8 (.cons (a9 U eG) (.cons (a9 U eG) (.c2 (.c (.cons (a9 U eG) (.cons (a9 U eG) .nil))))))) (.c .nil)⟩
 refine .region (.mv ?_)
 refine .vl (Y.qb U U aG) (.an ?_)
 refine .nil (⟨cX + 1,⟨om,gW hG Zy⟩,om,Le.mk (.c (.cons (ak U bc) .nil)) .nil⟩)
 refine .exit (.sr (.an (.nil (.ret ?_))))
 exact .rb rfl (dt (fun j hj=>hG j om))
theorem tA{a:List Int}{w n:Int}(ha:a.length <= 1000000):aw Try.prog 34 [.fz 1 (a.map ah),vi w,vi n] [] [] (fun r o=>r = .v (.bool (decide (mN a w n))) /\ o = []):=by
 refine aw.of Try.func34 U U U (n:=31) ae (aH U) (.sr (.an ?_))
 refine .nil (.seq (.sr (.an (.nil (.block ?_)))))
 refine .jt (fun (tQ:Nat)=>⟨[(0,.fz 1 (a.map ah)),(1,vi w),(2,vi n),(7,vi tQ)],[]⟩) (fun tQ=>((tQ:Int) <= (a.length:Int)) /\ (∀ j,j < tQ -> 0 <= a.getD j 0 /\ a.getD j 0 < n)) (fun tQ=>((a.length:Int) - (tQ:Int)).toNat) 0 (⟨om,fun j hj=>by omega⟩) (Le.mk (.c2 (.c (.cons (ak U bc) .nil))) .nil) (fun tQ CB=>?_)
 obtain ⟨DX,hP⟩:=CB
 refine .seq (.sr (.mv ?_))
 refine .mv ?_
 refine .vl (Y.qx (n:=a.length) a7 U (congrArg some (List.length_map ..))) (.vl (Y.zc U U) (.nil (.aA U (fun JX=>?_) (fun JX=>?_))))
 refine .skip (.seq (.block (.sr (.mv ?_))))
 refine .mv ?_
 refine .vl (Y.qs (m:=tQ) a7 U U bc (ao (d:=0) om)) (.ld bj ?_)
 refine .vl (Y.zc U U) (.mv ?_)
 refine .aC (d:=19) U (fun vD=>?_) (fun vD=>?_)
 refine .gz 19 (.gz 19 (.gz 19 (.gz 19 (.gz 19 (.gz 19 (.pk ?_))))))
 refine .nil (.aO U (.sr (.an (.nil (.ret ?_)))))
 exact .rb rfl (df (fun h=>by have h1:=h.1 tQ om; omega))
 refine .gw 19 (Y.zh U U) (.gw 19 (Y.zh U U) (.gw 19 (Y.qs (m:=tQ) a7 U U bc (ao (d:=0) om)) (.gw 19 (Y.za bj U U U U) (.gw 19 (Y.zh U U) (.gw 19 (Y.qq U U) (.pk ?_))))))
 refine .nil (.aA U (fun AO=>?_) (fun AO=>?_))
 refine .sr (.an (.nil (.ret ?_)))
 exact .rb rfl (df (fun h=>by have h1:=h.1 tQ om; omega))
 refine .skip (.region (.mv ?_))
 refine .vl (Y.qb U U aG) (.an ?_)
 refine .nil (⟨tQ + 1,⟨om,gW hP ⟨om,om⟩⟩,om,Le.mk (.c2 (.c (.cons (ak U bc) .nil))) .nil⟩)
 refine .exit (.sr (.mv ?_))
 refine .vl (Y.qx (n:=a.length) a7 U (congrArg some (List.length_map ..))) (.mv ?_)
 refine .vl (Y.ql U U) (.an (.nil (.ret ?_)))
 exact .rb rfl (dd ⟨fun h=>⟨fun j hj=>hP j om,h⟩,fun h=>h.2⟩)
open Go Go.AW Go.Proofs
end Go.Proofs.Ytlimckldnjmabaa
namespace Go.Proofs.Ytlimckldnjmabaa
open Go Go.AW Go.Proofs
open Go Go.AW
theorem solve{α : Type}[Inhabited α]{n : ab}{l : List Int}(hf : bh n)(ho : Ord n l)(F : Int → (Int → α) → α)
    (hF:∀ i f g,(bR (n.cell i).kind -> ∀ x ∈ (n.cell i).args,f x = g x) -> F i f = F i g):∃ f:Int -> α,∀ i w,bH n i w -> f w = F i f:=by
  have step:∀ k,k <= l.length -> ∃ f:Int -> α,∀ i w,bH n i w -> l.idxOf i < k -> f w = F i f:=by
    intro k
    induction k with
    | zero=>intro _; exact ⟨fun _=>default,fun _ _ _ h=>by omega⟩
    | succ k ih =>
      intro hk
      obtain ⟨f,h⟩:=ih om
      have Us:=vh ho.nd (k:=k) om
      let f':Int -> α:=fun w=>@ite _ (bH n (l.getD k 0) w) (Classical.propDecidable _) (F (l.getD k 0) f) (f w)
      have other:∀ j x,bH n j x -> l.idxOf j < k -> f' x = f x:=fun j x hx hj=>if_neg fun e=>by
        have:=hf.unique hx e
        rw [this] at hj; omega
      have args:∀ i:Int,0 <= i /\ i < n.cells.length -> l.idxOf i <= k -> F i f' = F i f:=fun i hi YY =>
        hF i f' f fun hc x hx=>by obtain ⟨j,hj,h1⟩:=ho.lt hi hc hx; exact other j x hj om
      refine ⟨f',fun i x hx gQ=>?_⟩
      rw [args i hx.1 om]
      rcases Nat.lt_or_ge (l.idxOf i) k with h1 | h1
      · rw [other i x hx h1]; exact h i x hx h1
      · have hm:=ho.mem hx.1
        have h2:l.idxOf i < l.length:=List.idxOf_lt_length_of_mem hm
        have h3:l.getD (l.idxOf i) 0 = i:=by
          rw [List.getD_eq_getElem?_getD,List.getElem?_eq_getElem h2]; exact List.getElem_idxOf h2
        rw [show l.idxOf i = k by omega] at h3
        rw [<- h3] at hx ⊢
        exact if_pos hx
  obtain ⟨f,h⟩:=step l.length (Nat.le_refl _)
  exact ⟨f,fun i w hd=>h i w hd (List.idxOf_lt_length_of_mem (ho.mem hd.1))⟩
theorem Md{n:ab}{l:List Int}(hf:bh n)(ho:Ord n l):∃ at_,tz n at_:=by
  have step:∀ k,k <= l.length -> ∃ out,pZ n l k out:=by
    intro k
    induction k with
    | zero=>intro _; exact ⟨_,pZ.init⟩
    | succ k ih =>
      intro hk
      obtain ⟨out,h⟩:=ih om
      by_cases h7:(n.cell (l.getD k 0)).kind = 7
      · exact ⟨out,h.skip ho om h7⟩
      · have hr:=ho.rE (l.getD k 0) (bC om)
        exact ⟨_,h.set hf ho om (w:=(n.cell (l.getD k 0)).out) ⟨hr,h7,rfl⟩ rfl⟩
  obtain ⟨out,h⟩:=step l.length (Nat.le_refl _)
  exact ⟨out,h.done ho rfl⟩
def Src(k:Int):Prop:=k = 4 \/ k = 5 \/ k = 6 \/ k = 8 \/ k = 9 \/ k = 10
instance (k:Int):Decidable (Src k):=by unfold Src; infer_instance
def nf(n : ab) : Nat → Nat
  | 0=>0
  | i + 1=>nf n i + (if Src (n.cells.getD i default).kind then (n.wd (n.cells.getD i default).out).toNat else 0)
theorem wB{n : ab}{i : Nat} : ∀ {j}, i ≤ j → nf n i ≤ nf n j
  | 0, h => by have : i = 0 := by omega
               subst this; exact Nat.le_refl _
  | j + 1,h=>by
    rcases Nat.lt_or_ge j i with h1 | h1
    · have:i = j + 1:=by omega
      subst this; exact Nat.le_refl _
    · have:=wB (n:=n) h1
      simp only [nf]; omega
theorem Cp{n:ab}(h:∀ w ∈ n.aa,dz w)(x:Int):(n.wd x).toNat <= 64:=by
  unfold ab.wd
  rw [List.getD_eq_getElem?_getD]
  cases h1:n.aa[x.toNat]? with
  | none=>simp
  | some v =>
    have:=h v (List.mem_of_getElem? h1)
    unfold dz at this
    simp only [Option.getD_some]; omega
theorem Cq{n : ab}(h : ∀ w ∈ n.aa, dz w) : ∀ i, nf n i ≤ 64 * i
  | 0=>by simp [nf]
  | i + 1=>by
    have h1:=Cq h i
    have h2:=Cp h (n.cells.getD i default).out
    simp only [nf]; split <;> omega
def sf(V : Int → Nat) : List Int → Nat
  | s :: d :: r=>(if V s = 1 then V d else 0) ||| sf V r
  | _=>0
theorem vo{V W : Int → Nat} : ∀ {l : List Int}, (∀ x ∈ l, V x = W x) → sf V l = sf W l
  | [],_=>rfl
  | [_],_=>rfl
  | s :: d :: r,h=>by
    rw [sf,sf,h s (by simp),h d (by simp),vo (l:=r) fun x hx=>h x (by simp [hx])]
def lu(n:ab)(c:Cell)(V:Int -> Nat):Nat :=
  if c.kind = 1 then c.num else if c.kind = 2 then so c.op (n.av c 0).toNat (n.ow c).toNat (if 0 < c.args.length then V (c.args.getD 0 0) else 0) (if 1 < c.args.length then V (c.args.getD 1 0) else 0) (if 2 < c.args.length then V (c.args.getD 2 0) else 0) else sf V c.args
theorem tB{n:ab}{c:Cell}{V W:Int -> Nat}(h:∀ x ∈ c.args,V x = W x):lu n c V = lu n c W:=by
  have g:∀ k,(if k < c.args.length then V (c.args.getD k 0) else 0) = if k < c.args.length then W (c.args.getD k 0) else 0:=fun k=>by
    by_cases hk:k < c.args.length
    · rw [if_pos hk,if_pos hk,h _ (bC hk)]
    · rw [if_neg hk,if_neg hk]
  unfold lu
  rw [g 0,g 1,g 2,vo h]
structure WV(n:ab)(S:Int -> Nat)(V:Int -> Nat):Prop where
  eq:∀ i w,bH n i w -> V w = if bR (n.cell i).kind then lu n (n.cell i) V else S i
theorem WV.ex{n:ab}{l:List Int}(hf:bh n)(ho:Ord n l)(S:Int -> Nat):∃ V,WV n S V:=by
  obtain ⟨f,h⟩:=solve hf ho (fun i V=>if bR (n.cell i).kind then lu n (n.cell i) V else S i) fun i f g Zz=>by
    by_cases hc:bR (n.cell i).kind
    · simp only [if_pos hc]; exact tB (Zz hc)
    · simp only [if_neg hc]
  exact ⟨f,⟨h⟩⟩
theorem WV.uniq{n:ab}{l:List Int}{S V W:Int -> Nat}(ho:Ord n l)(hV:WV n S V)(hW:WV n S W):∀ i w,bH n i w -> V w = W w:=by
  have key:∀ k:Nat,∀ i w,bH n i w -> l.idxOf i < k -> V w = W w:=by
    intro k
    induction k with
    | zero=>intro i w _ h; omega
    | succ k ih =>
      intro i w hd hk
      rw [hV.eq i w hd,hW.eq i w hd]
      by_cases hc:bR (n.cell i).kind
      · rw [if_pos hc,if_pos hc]
        exact tB fun x hx=>by obtain ⟨j,hj,h1⟩:=ho.lt hd.1 hc hx; exact ih j x hj om
      · rw [if_neg hc,if_neg hc]
  exact fun i w hd=>key _ i w hd (Nat.lt_succ_self _)
def Me(n:ab)(ins:List Bool)(i:Int):Nat:=CY (nf n i.toNat) (n.wd (n.cell i).out).toNat ins
def VI(n:ab)(V:List Bool -> Int -> Nat):Prop:=∀ ins,WV n (Me n ins) (V ins)
theorem VI.ex{n:ab}{l:List Int}(hf:bh n)(ho:Ord n l):∃ V,VI n V:=by
  have h:=fun ins=>WV.ex hf ho (Me n ins)
  exact ⟨fun ins=>Classical.choose (h ins),fun ins=>Classical.choose_spec (h ins)⟩
open Go Go.AW
structure CI(n:ab)(c:Cell)(gl:List Gate)(bits:List (List Int))(V:List Bool -> Int -> Nat)(at_:List Int):Prop where
 lq:∀ w ∈ n.aa,dz w
 comb:bR c.kind
 ok:jG n c
 fit:Fits n c
 al:c.args.length <= 6
 bl:bits.length = n.aa.length
 wk:∀ x ∈ c.args,Wk 30 gl (bits.getD x.toNat []) (n.wd x).toNat (fun ins=>V ins x) (at_.getD x.toNat 0)
 nn:∀ x ∈ c.args,0 <= at_.getD x.toNat 0 /\ at_.getD x.toNat 0 <= 400000
section
variable {n:ab} {c:Cell} {gl g1 g0:List Gate} {bits:List (List Int)} {V:List Bool -> Int -> Nat} {at_:List Int}
theorem CI.out(h:CI n c gl bits V at_):(0 <= c.out /\ c.out < n.aa.length) /\ dz (n.wd c.out) /\ n.ow c = n.wd c.out:=by
 have h7:c.kind ≠ 7:=by have:=h.comb; unfold bR at this; omega
 have h1:=h.ok.2.2.2 h7
 refine ⟨h1,?_,by unfold ab.ow; rw [if_pos h1.1]⟩
 exact h.lq _ (getD_in (by unfold In at h1; omega))
theorem CI.arg(h:CI n c gl bits V at_){k:Nat}(hk:k < c.args.length):(0 <= c.args.getD k 0 /\ c.args.getD k 0 < n.aa.length) /\ c.args.getD k 0 ∈ c.args /\ dz (n.av c k):=by
 have hm:=bC (l:=c.args) hk
 have h1:=h.ok.1 _ hm
 exact ⟨h1,hm,h.lq _ (getD_in (by unfold In at h1; omega))⟩
theorem CI.T(h:CI n c gl bits V at_):0 <= gE at_ c.args /\ gE at_ c.args <= 400000:=l9 om fun x hx=>(h.nn x hx).2
theorem CI.bit(h : CI n c gl bits V at_){k j : Nat}(hk : k < c.args.length)(hj : j < (n.av c k).toNat) :
  (bits.getD (c.args.getD k 0).toNat []).length = (n.av c k).toNat /\ Wr 30 gl ((bits.getD (c.args.getD k 0).toNat []).getD j 0) (fun ins=>(V ins (c.args.getD k 0)).testBit j) (gE at_ c.args):=by
 have hm:=(h.arg hk).2.1
 have h1:=h.wk _ hm
 exact ⟨h1.len,(h1.bit j hj).late (xj hm)⟩
theorem CI.res{l:List Gate}{out:List Int}(h:CI n c gl bits V at_){t:Int}(hw:Wk 30 l out (n.ow c).toNat (fun ins=>lu n c (V ins)) t)(ht:t <= gE at_ c.args + l4 n c):Wk 30 l out (n.ow c).toNat (fun ins=>lu n c (V ins)) (jV n at_ c):=by
 unfold jV
 rw [if_pos h.comb]
 exact hw.late ht
-- constants
theorem xx.MB{N : Nat}{r : List Int}{t kd : Int}{i : Nat}(k : xx 30 g0 gl r (fun k _ => N.testBit k) t i)(ht : 0 ≤ t)(hk : kd = 1 + (((N.testBit i).toNat : Nat) : Int)) :
  xx 30 g0 (gl ++ [⟨kd,0,0⟩]) (r ++ [(gl.length:Int)]) (fun k _=>N.testBit k) t (i + 1):=by
 have e:Ext gl (gl ++ [⟨kd,0,0⟩]):=Ext.MB k.ext.dP (by subst hk; cases N.testBit i <;> decide)
 have hl:=k.len
 refine ⟨k.ext.trans e,by rw [List.length_append,List.length_singleton]; omega,by rw [List.length_append,k.ol]; rfl,(k.ws.ext e).snoc ?_⟩
 rw [k.ol]
 cases hb:N.testBit i
 ·rw [hb] at hk; rw [show kd = 1 from hk]; exact Wr.zero ht
 ·rw [hb] at hk; rw [show kd = 2 from hk]; exact Wr.one ht
theorem CI.const{l : List Gate}{out : List Int}(h : CI n c gl bits V at_)(h1 : c.kind = 1)(hM : xx 30 gl l out (fun k _ => c.num.testBit k) 0 (n.ow c).toNat) :
  Ext gl l /\ l.length <= gl.length + 1700 /\ Wk 30 l out (n.ow c).toNat (fun ins=>lu n c (V ins)) (jV n at_ c):=by
 obtain ⟨_,hw,ho⟩:=h.out
 have hl:=hM.len
 unfold dz at hw
 have hf:gK (n.ow c) c.num = c.num:=by
  have hf:=h.fit
  simp only [Fits,h1,Int.reduceEq,false_and,true_and,false_or,or_false] at hf; exact hf
 have gQ:=wP (n.ow c) c.num
 rw [hf,ho,pO hw,<- ho] at gQ
 have hT:=h.T
 have hd:l4 n c = 0:=by unfold l4; rw [if_pos h1]
 refine ⟨hM.ext,om,h.res (t:=0) ((Ws.wk (N:=fun _=>c.num) hM.ws hM.ol (fun _=>gQ)).as fun ins=>by unfold lu; rw [if_pos h1]) om⟩
-- multiplexers
theorem yP{V : Int → Nat}{k : Nat} : ∀ {l : List Int}, l.length % 2 = 0 → ((sf V l).testBit k = true ↔ ∃ j, j < l.length / 2 ∧ V (l.getD (2 * j) 0) = 1 ∧ (V (l.getD (2 * j + 1) 0)).testBit k = true)
 | [],_=>by simp [sf]
 | [_],h=>by simp at h
 | s :: d :: r,h=>by
  have ih:=yP (V:=V) (k:=k) (l:=r) (by simp at h; omega)
  rw [sf,Nat.testBit_or,Bool.or_eq_true,ih]
  constructor
  ·rintro (h1 | ⟨j,hj,h1,h2⟩)
   ·by_cases hs:V s = 1
    ·rw [if_pos hs] at h1
     exact ⟨0,by simp,hs,h1⟩
    ·rw [if_neg hs,Nat.zero_testBit] at h1; cases h1
   ·exact ⟨j + 1,by simp; omega,by simpa [Nat.mul_add] using h1,by simpa [Nat.mul_add] using h2⟩
  ·rintro ⟨j,hj,h1,h2⟩
   cases j with
   | zero=>left; simp at h1 h2; rw [if_pos h1]; exact h2
   | succ j=>right; exact ⟨j,by simp at hj; omega,by simpa [Nat.mul_add] using h1,by simpa [Nat.mul_add] using h2⟩
theorem GA{V:Int -> Nat}{l:List Int}{k:Nat}(h:l.length % 2 = 0):kq (fun j=>decide (V (l.getD (2 * j) 0) = 1) && (V (l.getD (2 * j + 1) 0)).testBit k) (l.length / 2) = (sf V l).testBit k:=by
 rw [Bool.eq_iff_iff,lY,yP h]
 simp
theorem Cr{V : Int → Nat}{w : Nat} : ∀ {l : List Int}, (∀ j, 2 * j + 1 < l.length → V (l.getD (2 * j + 1) 0) < 2 ^ w) → sf V l < 2 ^ w
 | [],_=>Nat.two_pow_pos w
 | [_],_=>Nat.two_pow_pos w
 | s :: d :: r,h=>by
  rw [sf]
  refine Nat.or_lt_two_pow ?_ (Cr (l:=r) fun j hj=>by have:=h (j + 1) (by simp; omega); simpa [Nat.mul_add] using this)
  split
  ·exact h 0 (by simp)
  ·exact Nat.two_pow_pos w
structure Hi(n:ab)(c:Cell)(V:List Bool -> Int -> Nat)(at_:List Int)(k:Nat)(g1 gl:List Gate)(l:List Int)(i:Nat):Prop where
 ext:Ext g1 gl
 len:gl.length = g1.length + i / 2
 ev:i % 2 = 0
 il:i <= c.args.length
 ll:l.length = i / 2
 ws:Ws 30 gl l (fun j ins=>decide (V ins (c.args.getD (2 * j) 0) = 1) && (V ins (c.args.getD (2 * j + 1) 0)).testBit k) (gE at_ c.args + 20)
theorem CI.Cs(h:CI n c gl bits V at_)(h3:c.kind = 3):c.args.length % 2 = 0 /\ 2 <= c.args.length /\ ∀ k,k < c.args.length -> (k % 2 = 0 -> n.av c k = 1) /\ (k % 2 = 1 -> n.av c k = n.ow c):=by
 have hf:=h.fit
 have RE:=h.ok.2.1.k3 h3
 have PA:∀ k,k < c.args.length -> kf n c k:=by
  simp only [Fits,h3,Int.reduceEq,false_and,true_and,false_or,or_false] at hf; exact hf
 refine ⟨RE.2,RE.1,fun k hk=>?_⟩
 have:=PA k hk
 unfold kf at this
 omega
theorem Hi.init{k:Nat}(hg:Good g1):Hi n c V at_ k g1 g1 [] 0:=⟨.refl hg,by simp,rfl,om,rfl,.nil⟩
theorem Hi.facts{l : List Int}{k i : Nat}(h : CI n c g0 bits V at_)(h3 : c.kind = 3)(hx : Hi n c V at_ k g1 gl l i)(hi : i < c.args.length)(hk : k < (n.ow c).toNat) :
  (i + 1 < c.args.length /\ (0 <= c.args.getD i 0 /\ c.args.getD i 0 < (bits.length:Int)) /\ 0 <= c.args.getD (i + 1) 0 /\ c.args.getD (i + 1) 0 < (bits.length:Int)) /\ (bits.getD (c.args.getD i 0).toNat []).length = 1 /\ (bits.getD (c.args.getD (i + 1) 0).toNat []).length = (n.ow c).toNat:=by
 obtain ⟨he,_,hm⟩:=h.Cs h3
 have Vi:=hx.ev
 have a0:=h.arg hi
 have a1:=h.arg (k:=i + 1) om
 have m0:=(hm i hi).1 Vi
 have m1:=(hm (i + 1) om).2 om
 have b0:=(h.bit (k:=i) (j:=0) hi om).1
 have b1:=(h.bit (k:=i + 1) (j:=k) om om).1
 rw [h.bl]
 exact ⟨⟨om,a0.1,a1.1⟩,by rw [b0,m0]; rfl,by rw [b1,m1]⟩
theorem Hi.step{l : List Int}{k i : Nat}(h : CI n c g0 bits V at_)(h0 : Ext g0 g1)(h3 : c.kind = 3)(hx : Hi n c V at_ k g1 gl l i)(hi : i < c.args.length)(hk : k < (n.ow c).toNat) :
  Hi n c V at_ k g1 (gl ++ [⟨5,(bits.getD (c.args.getD i 0).toNat []).getD 0 0,(bits.getD (c.args.getD (i + 1) 0).toNat []).getD k 0⟩]) (l ++ [(gl.length:Int)]) (i + 2):=by
 obtain ⟨he,_,hm⟩:=h.Cs h3
 have Vi:=hx.ev
 have m0:=(hm i hi).1 Vi
 have m1:=(hm (i + 1) om).2 om
 have b0:=((h.bit (k:=i) (j:=0) hi om).2.ext h0).ext hx.ext
 have b1:=((h.bit (k:=i + 1) (j:=k) om om).2.ext h0).ext hx.ext
 have gQ:∀ ins,V ins (c.args.getD i 0) < 2 ^ 1:=fun ins=>by
  have:=(h.wk _ (h.arg hi).2.1).lt ins
  have e:(n.wd (c.args.getD i 0)).toNat = 1:=by show (n.av c i).toNat = 1; rw [m0]; rfl
  rwa [e] at this
 have e:=Ext.two (k:=5) hx.ext.dP ae b0 b1
 have w:=(b0.as fun ins=>FF (gQ ins)).and (u:=gE at_ c.args + 20) b1 (Int.le_refl _) (Int.le_refl _)
 have hl:=hx.len
 have Z0:=hx.ll
 refine ⟨hx.ext.trans e,by rw [List.length_append,List.length_singleton]; omega,om,om,by rw [List.length_append,List.length_singleton]; omega,(hx.ws.ext e).snoc ?_⟩
 rw [Z0,show 2 * (i / 2) = i by omega]
 exact w
structure Hj(n:ab)(c:Cell)(V:List Bool -> Int -> Nat)(at_:List Int)(g0 gl:List Gate)(out:List Int)(k:Nat):Prop where
 ext:Ext g0 gl
 len:gl.length <= g0.length + 7 * k
 ol:out.length = k
 ws:Ws 30 gl out (fun j ins=>(sf (V ins) c.args).testBit j) (gE at_ c.args + 20 + 20 * (cF (c.args.length / 2):Int))
theorem Hj.init(hg:Good g0):Hj n c V at_ g0 g0 [] 0:=⟨.refl hg,om,rfl,.nil⟩
theorem Hj.step{out l : List Int}{k i : Nat}{g2 : List Gate}{x : Int}(h : CI n c g0 bits V at_)(h3 : c.kind = 3)(ho : Hj n c V at_ g0 g1 out k)(hx : Hi n c V at_ k g1 gl l i)(hi : i = c.args.length)(he : Ext gl g2)(hl : g2.length ≤ gl.length + l.length + 1)
  (hw:Wr 30 g2 x (fun ins=>kq (fun j=>decide (V ins (c.args.getD (2 * j) 0) = 1) && (V ins (c.args.getD (2 * j + 1) 0)).testBit k) l.length) (gE at_ c.args + 20 + 20 * (cF l.length:Int))):Hj n c V at_ g0 g2 (out ++ [x]) (k + 1):=by
 have h1:=hx.len
 have h2:=hx.ll
 have h4:=ho.len
 have h5:=h.al
 subst hi
 refine ⟨(ho.ext.trans hx.ext).trans he,om,by rw [List.length_append,ho.ol]; rfl,((ho.ws.ext hx.ext).ext he).snoc ?_⟩
 rw [ho.ol]
 rw [h2] at hw
 exact hw.as fun ins=>GA (h.Cs h3).1
theorem Hj.done{l : List Gate}{out : List Int}(h : CI n c gl bits V at_)(h3 : c.kind = 3)(ho : Hj n c V at_ gl l out (n.ow c).toNat) :
  Ext gl l /\ l.length <= gl.length + 1700 /\ Wk 30 l out (n.ow c).toNat (fun ins=>lu n c (V ins)) (jV n at_ c):=by
 obtain ⟨_,hw,Mf⟩:=h.out
 have hl:=ho.len
 unfold dz at hw
 obtain ⟨he,_,hm⟩:=h.Cs h3
 have hd:l4 n c = 20 + 20 * (cF (c.args.length / 2):Int):=by unfold l4; rw [if_neg om,if_neg om,if_pos h3]
 refine ⟨ho.ext,om,h.res ((Ws.wk (N:=fun ins=>sf (V ins) c.args) ho.ws ho.ol fun ins=>Cr fun j hj=>?_).as fun ins=>by unfold lu; rw [if_neg (show ¬ c.kind = 1 by omega),if_neg (show ¬ c.kind = 2 by omega)]) om⟩
 have h1:=(h.wk _ (h.arg hj).2.1).lt ins
 have e:(n.wd (c.args.getD (2 * j + 1) 0)).toNat = (n.ow c).toNat:=by show (n.av c (2 * j + 1)).toNat = _; rw [(hm (2 * j + 1) hj).2 om]
 rwa [e] at h1
-- operators
def sT(bits:List (List Int))(l:List Int):List (List Int):=l.map fun x=>bits.getD x.toNat []
theorem Dn{l:List Int}{x:Int}:sT bits (l ++ [x]) = sT bits l ++ [bits.getD x.toNat []]:=by simp [sT]
theorem Dp{l:List Int}{k:Nat}(hk:k < l.length):sT bits (l.take (k + 1)) = sT bits (l.take k) ++ [bits.getD (l.getD k 0).toNat []]:=by
 rw [take_one (d:=(0:Int)) hk,Dn]
theorem pw(l:List Int):(sT bits l).length = l.length:=by simp [sT]
theorem GB{l:List Int}{k:Nat}(hk:k < l.length):(sT bits l).getD k [] = bits.getD (l.getD k 0).toNat []:=by
 unfold sT
 rw [List.getD_eq_getElem?_getD,List.getElem?_map,List.getElem?_eq_getElem hk,List.getD_eq_getElem?_getD (l:=l),List.getElem?_eq_getElem hk]; rfl
def Jd(c:Cell)(V:List Bool -> Int -> Nat)(k:Nat)(ins:List Bool):Nat:=if k < c.args.length then V ins (c.args.getD k 0) else 0
theorem CI.Vj(h:CI n c gl bits V at_)(h2:c.kind = 2):Ix 30 gl (sT bits c.args) c.op (n.av c 0).toNat (n.ow c).toNat (Jd c V 0) (Jd c V 1) (Jd c V 2) (gE at_ c.args):=by
 obtain ⟨_,v3,Mf⟩:=h.out
 have hs:=h.ok.2.1
 have hf:=h.fit
 simp only [Shaped,h2,Int.reduceEq,false_and,true_and,false_or,or_false] at hs
 have h0:cd c.op ≠ 0 /\ (c.args.length:Int) = cd c.op:=⟨hs.1,hs.2.1⟩
 have RD:ek c.op (n.av c 0) (n.av c 1) (n.av c 2) (n.ow c):=by
  simp only [Fits,h2,Int.reduceEq,false_and,true_and,false_or,or_false] at hf; exact hf
 clear hs hf
 have tI:=uV h0.1 h0.2
 have w0:=(h.arg (k:=0) om).2.2
 have uW:∀ {j},j < c.args.length -> Wk 30 gl ((sT bits c.args).getD j []) (n.av c j).toNat (Jd c V j) (gE at_ c.args):=fun {j} hj=>by
  have hm:=(h.arg hj).2.1
  rw [GB hj]
  exact ((h.wk _ hm).late (xj hm)).as fun ins=>by unfold Jd; rw [if_pos hj]
 rw [<- Mf] at v3
 unfold dz at w0 v3
 unfold ek jY at RD
 have hT:=h.T
 refine ⟨uW om,fun g=>?_,fun g=>?_,?_,om,om,hT.1⟩
 ·rw [pw] at g
  have hy:=uW (j:=1) om
  have e:(n.av c 1).toNat = if c.op = 21 then (n.ow c).toNat else (n.av c 0).toNat:=by
   by_cases KL:c.op = 21
   ·rw [if_pos KL]; omega
   ·rw [if_neg KL]; omega
  rw [<- e]; exact hy
 ·rw [pw] at g
  have hz:=uW (j:=2) om
  have e:(n.av c 2).toNat = (n.ow c).toNat:=by omega
  rw [e] at hz; exact hz
 ·rw [pw]; omega
theorem CI.Qx{l : List Gate}{out : List Int}(h : CI n c gl bits V at_)(h2 : c.kind = 2)(hr : Cb 30 l out c.op (n.av c 0).toNat (n.ow c).toNat (Jd c V 0) (Jd c V 1) (Jd c V 2) (gE at_ c.args)) :
  Wk 30 l out (n.ow c).toNat (fun ins=>lu n c (V ins)) (jV n at_ c):=by
 refine h.res (hr.as fun ins=>?_) (Int.le_of_eq ?_)
 ·show _ = lu n c (V ins)
  unfold lu Jd; rw [if_neg (show ¬ c.kind = 1 by omega),if_pos h2]
 ·obtain ⟨_,_,Mf⟩:=h.out
  have e:(if jY c.op then n.av c 0 else n.ow c).toNat = if jY c.op then (n.av c 0).toNat else (n.ow c).toNat:=by split <;> rfl
  unfold l4
  rw [if_neg (show ¬ c.kind = 1 by omega),if_pos h2,<- Mf,e]
end
open Go Go.AW Go.Proofs
theorem AX{gl:List Gate}(hg:Good gl)(tu:gl.length <= 10000000){n:ab}{c:Cell}{bits:List (List Int)}{V:List Bool -> Int -> Nat}{at_:List Int}(hI:CI n c gl bits V at_)(X4:n.aa.length <= 1000)(Oh:c.num < 18446744073709551616):aw Try.prog 94 [.ptr 0 0 0 0,.agg (ab.row n),.agg (Cell.row c),.fz 1 (bits.map dc)] [.cells [.aL 1 3 0 gl.length],.rows 3 (gl.map Gate.row)] [0] (fun r o=>∃ (l:List Gate) (out:List Int),(Ext gl l /\ l.length <= gl.length + 1700 /\ Wk 30 l out (n.ow c).toNat (fun ins=>lu n c (V ins)) (jV n at_ c)) /\ r = .dH 1 (out.map ah) /\ o = [.cells [.aL 1 3 0 l.length],.rows 3 (l.map Gate.row)]):=by
 refine aw.of Try.func94 U U U (n:=116) ae (aH U) ?_
 obtain ⟨Ru,Z1,Mf⟩:=hI.out; have hT:=hI.T; have IM:=hI.bl; have tI:=hI.al; unfold dz at Z1; have v3:n.aa.getD c.out.toNat 0 = n.wd c.out:=rfl
 refine .sr (.box 105 U U U U U ae (.box 106 U U U U U ae ?_))
 refine .an ?_
 refine .nil (.seq (.sh (Sh.eQ 105 U U) (.sh (Sh.eQ 106 U U) (.region (.fa bO ?_)))))
 refine .ld bt ?_
 refine .fa eo ?_
 refine .ld bj ?_
 refine .vl (Y.qs (m:=(c.out).toNat) a7 U U om (ao (d:=0) om)) (.ld bj ?_)
 refine .an ?_
 refine .nil (.seq (.sr (.fa dC ?_)))
 refine .ld bj ?_
 refine .nil (.block (.sr (.vl (Y.ql U U) (.an (.nil ?_)))))
 refine .aA U (fun z4=>?_) (fun z4=>?_)
 refine .sr (.an ?_)
 refine .sh (Sh.nil (d:=10) 110 1 U ae) (.nil (.seq (.sr (.mv ?_))))
 refine .mv ?_
 refine .nil (.block (.eh (fun (mO:Nat) (gg:List Gate) (mP:List Int)=>⟨[(0,.ptr 0 0 0 0),(6,.fp (Cell.row c) 0),(10,.aL 110 1 0 mP.length),(29,vi (n.aa.getD ((c.out).toNat) 0)),(30,vi mO)],[(0,.cells [.aL 1 3 0 gg.length]),(1,.rows 3 (gg.map Gate.row)),(110,.rows 1 (mP.map ah))]⟩) (fun mO gg mP=>((mO:Int) <= (n.aa.getD ((c.out).toNat) 0)) /\ (xx 30 gl gg mP (fun k _=>c.num.testBit k) 0 mO)) (fun mO gg mP=>((n.aa.getD ((c.out).toNat) 0) - (mO:Int)).toNat) 0 gl ([]:List Int) (⟨mz,xx.init hg⟩) (Le.mk (.c2 (.cons (aN U aG) (.c (.cons (ak U bc) .nil)))) (.cons (ay U eR) (.c (.c .nil)))) (fun mO gg mP PJ=>?_)))
 obtain ⟨YI,hM⟩:=PJ
 refine .sr (.vl (Y.zc U U) (.nil (.seq (.aA U (fun MQ=>?_) (fun MQ=>?_)))))
 refine .skip (.seq (.block (.sr (.mv ?_))))
 refine .an (.nil ?_)
 have MP:=hM.len; have Ux:=hM.ol; have XW:=Nat.div_le_self c.num (2 ^ mO)
 refine .region (.mv ?_)
 refine .mv ?_
 refine .fa eB ?_
 refine .ld iY ?_
 refine .mv ?_
 refine .vl (Y.zx (a:=c.num) mO U U bc om) (.vl (Y.qe (a:=(c.num / 2 ^ mO)) (b:=1) U U aG) (.vl (Y.qk yb sD U (by first | rfl | exact IntWalk.i64_in _ aG)) (.vl (Y.qb U U aG) (.bw [0,1] [] tm (j3 (gl:=gg) (k:=1 + (((c.num / 2 ^ mO) &&& 1:Nat):Int)) (a:=0) (b:=0) om) U (.named U U (.aj U U (.aj U U (.aj U U .nil)))) ⟨U,U,trivial⟩ U ae (fun _ h=>by cases h) (fun _ h=>by cases h) ae ae ?_))))
 rintro r aJ ⟨rfl,rfl⟩ _
 refine ⟨⟨rfl,(by intro ob aW; simp only [List.mem_cons,List.not_mem_nil,or_false] at aW; rcases aW with rfl | rfl <;> rfl),.inl rfl⟩,(.buildSlice (([(gg.length:Int)]:List Int).map ah) a7 dD U U U U U (aq (s:=1) (f:=ah) (fun _=>U)) U U U ae ?_)⟩
 refine .cL ah (mP ++ ([(gg.length:Int)]:List Int)) a7 dD U U U U (bg aG) (aR aG) (bz aG) aG aG ae ae ?_
 refine .an (.nil (.region ?_))
 refine .vl (Y.qb U U aG) (.mv ?_)
 refine .nil (⟨mO + 1,gg ++ [(⟨1 + (((c.num / 2 ^ mO) &&& 1:Nat):Int),0,0⟩:Gate)],mP ++ ([(gg.length:Int)]:List Int),⟨om,hM.MB (Int.le_refl _) (by rw [Nat.and_one_is_mod,Nat.toNat_testBit])⟩,om,Le.mk (.c2 (.cons (aN U om) (.c (.cons (ak U bc) .nil)))) (.cons (ay U eR) (.c (.c .nil)))⟩)
 refine .exit (.sr (.mv ?_))
 refine .an ?_
 exact .sh (Sh.dA (d:=8) (o:=110) U U (aU om) ae) (.nil (.ret ⟨_,_,U,U,_,_,hI.const z4 (by rw [show (n.ow c).toNat = mO by omega]; exact hM),U,U⟩))
 refine .sr (.vl (Y.ql U U) (.an (.nil ?_)))
 refine .aA U (fun LA=>?_) (fun LA=>?_)
 have h3:c.kind = 3:=LA
 refine .sr (.an ?_)
 refine .sh (Sh.nil (d:=12) 112 1 U ae) (.nil (.seq (.sr (.mv ?_))))
 refine .mv ?_
 refine .nil (.block (.eh (fun (jo:Nat) (cT:List Gate) (jb:List Int)=>⟨[(0,.ptr 0 0 0 0),(3,.fz 1 (bits.map dc)),(6,.fp (Cell.row c) 0),(12,.aL 112 1 0 jb.length),(49,vi (n.aa.getD ((c.out).toNat) 0)),(50,vi jo)],[(0,.cells [.aL 1 3 0 cT.length]),(1,.rows 3 (cT.map Gate.row)),(112,.rows 1 (jb.map ah))]⟩) (fun jo cT jb=>((jo:Int) <= (n.aa.getD ((c.out).toNat) 0)) /\ (Hj n c V at_ gl cT jb jo)) (fun jo cT jb=>((n.aa.getD ((c.out).toNat) 0) - (jo:Int)).toNat) 0 gl ([]:List Int) (⟨mz,Hj.init hg⟩) (Le.mk (.c2 (.c (.cons (aN U aG) (.c (.cons (ak U bc) .nil))))) (.cons (ay U eR) (.c (.c .nil)))) (fun jo cT jb Gg=>?_)))
 obtain ⟨Vk,hO⟩:=Gg
 refine .sr (.vl (Y.zc U U) (.nil (.seq (.aA U (fun Vl=>?_) (fun Vl=>?_)))))
 refine .skip (.seq (.block (.seq ?_)))
 have hOl:=hO.len; have hOo:=hO.ol
 refine .region (.mv ?_)
 refine .an (.nil (.sr ?_))
 refine .an ?_
 refine .sh (Sh.nil (d:=14) 114 1 U ae) (.nil (.seq (.sr (.an (.nil (.block ?_))))))
 refine .eh (fun (iP:Nat) (lf:List Gate) (nh:List Int)=>⟨[(0,.ptr 0 0 0 0),(3,.fz 1 (bits.map dc)),(6,.fp (Cell.row c) 0),(12,.aL 112 1 0 jb.length),(13,vi jo),(14,.aL 114 1 0 nh.length),(15,vi iP),(49,vi (n.aa.getD ((c.out).toNat) 0)),(50,vi jo)],[(0,.cells [.aL 1 3 0 lf.length]),(1,.rows 3 (lf.map Gate.row)),(112,.rows 1 (jb.map ah)),(114,.rows 1 (nh.map ah))]⟩) (fun iP lf nh=>((iP:Int) <= (c.args.length:Int)) /\ (Hi n c V at_ jo cT lf nh iP)) (fun iP lf nh=>((c.args.length:Int) - (iP:Int)).toNat) 0 cT ([]:List Int) (⟨mz,Hi.init hO.ext.dP⟩) (Le.mk (.c4 (.c (.cons (aN U aG) (.cons (ak U bc) (.c (.c .nil)))))) (.cons (ay U eR) (.c2 (.c .nil)))) (fun iP lf nh Vm=>?_)
 obtain ⟨Z2,hX⟩:=Vm
 refine .seq (.sr (.mv ?_))
 refine .fa bU ?_
 refine .ld bt ?_
 refine .vl (Y.qx (n:=c.args.length) a7 U (congrArg some (List.length_map ..))) (.vl (Y.zc U U) (.nil (.aA U (fun DG=>?_) (fun DG=>?_))))
 refine .skip (.seq (.block ?_))
 have Xe:=hX.len; have Vn:=hX.ll; obtain ⟨⟨My,YJ,TL⟩,xu,hb1⟩:=hX.facts hI h3 om om
 refine .dZ U (.blind 0 U au (ax.move U U) ae (.bP (n:=4) [1,2,3,4,5,6,7,8,9,10,11,12,13,14,15,16,17,18,19,20,21,22,23] [24,25,26,27] 24 U au ?_))
 refine .cn 1 U (Y.zh U U) (.cn 2 U (Y.zh U U) (.cn 3 U (Y.qp bU U U) (.cn 4 U (Y.za bt U U U U) (.cn 5 U (Y.zh U U) (.cn 6 U (Y.qs (m:=iP) a7 U U bc (ao (d:=0) om)) (.cn 7 U (Y.za bj U U U U) (.cn 8 U (Y.qs (m:=(c.args.getD iP 0).toNat) dI U U om (ao (d:=[]) om)) (.cn 9 U (Y.za bt U U U U) (.cn 10 U (Y.qs (m:=0) a7 U U bc (ao (d:=0) om)) (.cn 11 U (Y.za bj U U U U) (.cn 12 U (Y.zh U U) (.cn 13 U (Y.qp bU U U) (.cn 14 U (Y.za bt U U U U) (.cn 15 U (Y.zh U U) (.cn 16 U (Y.qb U U om) (.cn 17 U (Y.qs (m:=iP + 1) a7 U U bc (ao (d:=0) om)) (.cn 18 U (Y.za bj U U U U) (.cn 19 U (Y.qs (m:=(c.args.getD (iP + 1) 0).toNat) dI U U om (ao (d:=[]) om)) ?_))))))))))))))))))
 refine .cn 20 U (Y.za bt U U U U) (.cn 21 U (Y.zh U U) (.cn 22 U (Y.qs (m:=jo) a7 U U bc (ao (d:=0) om)) (.cn 23 U (Y.za bj U U U U) (.nil (.one 24 U au (.bw [0,1] [] tK (gC (gl:=lf) (a:=(bits.getD ((c.args.getD iP 0).toNat) []).getD 0 0) (b:=(bits.getD ((c.args.getD (iP + 1) 0).toNat) []).getD jo 0) om) U (.named U U (.aj U U (.aj U U .nil))) ⟨U,U,trivial⟩ U ae (fun _ h=>by cases h) (fun _ h=>by cases h) ae ae ?_))))))
 rintro r aJ ⟨rfl,rfl⟩ _
 refine ⟨⟨rfl,(by intro ob aW; simp only [List.mem_cons,List.not_mem_nil,or_false] at aW; rcases aW with rfl | rfl <;> rfl),.inl rfl⟩,(.nil ⟨U,(.one 25 U au (.buildSlice (([(lf.length:Int)]:List Int).map ah) a7 dD U U U U U (aq (s:=1) (f:=ah) (fun _=>U)) U U U ae ?_))⟩)⟩
 refine .nil ⟨U,(.one 26 U au (.cL ah (nh ++ ([(lf.length:Int)]:List Int)) a7 dD U U U U (bg aG) (aR aG) (bz aG) aG aG ae ae ?_))⟩
 refine .nil ⟨U,(.bP (n:=0) [27] [] 0 U au (.cn 27 U (Y.qf U U) (.nil (.done au (.region (.mv ?_))))))⟩
 refine .vl (Y.qb U U aG) (.an ?_)
 refine .nil (⟨iP + 2,lf ++ [(⟨5,(bits.getD ((c.args.getD iP 0).toNat) []).getD 0 0,(bits.getD ((c.args.getD (iP + 1) 0).toNat) []).getD jo 0⟩:Gate)],nh ++ ([(lf.length:Int)]:List Int),⟨om,hX.step hI hO.ext h3 om om⟩,om,Le.mk (.c4 (.c (.cons (aN U om) (.cons (ak U bc) (.c (.c .nil)))))) (.cons (ay U eR) (.c2 (.c .nil)))⟩)
 refine .exit (.sh (Sh.dA (d:=14) (o:=114) U U (aU om) ae) (.sh (Sh.cG (d:=14) (nh.map ah) U iJ (cC.map aI)) ?_))
 have Xe:=hX.len; have Vn:=hX.ll; have Z3:=hX.il; have hXg:=hX.ext.dP
 refine .region (.mv ?_)
 refine .mv ?_
 refine .mv ?_
 refine .bw [0,1] [] EV (vg (gl:=lf) hX.ext.dP om (a:=nh) hX.ws om om) U (.named U U (.aj U U .nil)) ⟨U,U,trivial⟩ U ae (fun _ h=>by cases h) (fun _ h=>by cases h) ae ae ?_
 rintro r aJ ⟨Z4,Vo,Vp,Qy,Vq,rfl,rfl⟩ _
 refine ⟨⟨rfl,(by intro ob aW; simp only [List.mem_cons,List.not_mem_nil,or_false] at aW; rcases aW with rfl | rfl <;> rfl),.inl rfl⟩,(.buildSlice (([Vo]:List Int).map ah) a7 dD U U U U U (aq (s:=1) (f:=ah) (fun _=>U)) U U U ae ?_)⟩
 refine .cL ah (jb ++ ([Vo]:List Int)) a7 dD U U U U (bg aG) (aR aG) (bz aG) aG aG ae ae ?_
 refine .an (.nil (.region ?_))
 refine .vl (Y.qb U U aG) (.mv ?_)
 refine .nil (⟨jo + 1,Z4,jb ++ ([Vo]:List Int),⟨om,hO.step hI h3 hX om Vp Qy Vq⟩,om,Le.mk (.c2 (.c (.cons (aN U om) (.c (.cons (ak U bc) .nil))))) (.cons (ay U eR) (.c (.c .nil)))⟩)
 refine .exit (.sr (.mv ?_))
 refine .an ?_
 exact .sh (Sh.dA (d:=8) (o:=112) U U (aU om) ae) (.nil (.ret ⟨_,_,U,U,_,_,Hj.done hI h3 (by rw [show (n.ow c).toNat = jo by omega]; exact hO),U,U⟩))
 refine .skip (.seq ?_)
 have h2:c.kind = 2:=(by have:=hI.comb; unfold bR at this; omega)
 refine .region (.an ?_)
 refine .sh (Sh.nil (d:=16) 116 1 U ae) (.nil (.seq (.sr (.fa bU ?_))))
 refine .ld bt ?_
 refine .vl (Y.qx (n:=c.args.length) a7 U (congrArg some (List.length_map ..))) (.mv ?_)
 refine .nil (.block (.iD (fun (jq:Nat) (gj:List (List Int))=>⟨[(0,.ptr 0 0 0 0),(3,.fz 1 (bits.map dc)),(6,.fp (Cell.row c) 0),(9,vi (n.aa.getD ((c.out).toNat) 0)),(16,.aL 116 1 0 gj.length),(96,.fz 1 (c.args.map ah)),(97,vi c.args.length),(98,vi jq)],[(0,.cells [.aL 1 3 0 gl.length]),(1,.rows 3 (gl.map Gate.row)),(116,.rows 1 (gj.map dc))]⟩) (fun jq gj=>((jq:Int) <= (c.args.length:Int)) /\ (gj = sT bits (c.args.take jq))) (fun jq gj=>((c.args.length:Int) - (jq:Int)).toNat) 0 ([]:List (List Int)) (⟨mz,U⟩) (Le.mk (.c4 (.cons (aN U aG) (.c2 (.cons (ak U bc) .nil)))) (.c2 (.c .nil))) (fun jq gj FX=>?_)))
 obtain ⟨PH,hA⟩:=FX
 refine .sr (.vl (Y.zc U U) (.nil (.seq (.aA U (fun Z5=>?_) (fun Z5=>?_)))))
 refine .skip (.seq (.block (.seq ?_)))
 have Z6:=hI.ok.1 _ (bC (l:=c.args) (i:=jq) om); unfold In at Z6; have Vr:=pw (bits:=bits) (c.args.take jq); rw [<- hA,List.length_take] at Vr
 refine .region (.vl (Y.qs (m:=jq) a7 U U bc (ao (d:=0) om)) (.ld bj ?_))
 refine .an (.nil (.region ?_))
 refine .mv ?_
 refine .mv ?_
 refine .mv ?_
 refine .vl (Y.qs (m:=(c.args.getD jq 0).toNat) dI U U om (ao (d:=[]) om)) (.ld bt ?_)
 refine .buildSlice (([bits.getD ((c.args.getD jq 0).toNat) []]:List (List Int)).map dc) dI pX U U U U U (aq (s:=1) (f:=dc) (fun _=>U)) U U U ae ?_
 refine .cL dc (gj ++ ([bits.getD ((c.args.getD jq 0).toNat) []]:List (List Int))) dI pX U U U U (bg aG) (aR aG) (bz aG) aG aG ae ae ?_
 refine .an (.nil (.region ?_))
 refine .vl (Y.qb U U aG) (.mv ?_)
 refine .nil (⟨jq + 1,gj ++ ([bits.getD ((c.args.getD jq 0).toNat) []]:List (List Int)),⟨om,by rw [hA,Dp om]⟩,om,Le.mk (.c4 (.cons (aN U om) (.c2 (.cons (ak U bc) .nil)))) (.c2 (.c .nil))⟩)
 refine .exit (.seq (.sh (Sh.dA (d:=16) (o:=116) U U (aU om) ae) (.sh (Sh.cG (d:=16) (gj.map dc) U iJ (cC.map lO)) ?_)))
 have X5:gj = sT bits c.args:=(by rw [hA,List.take_of_length_le om]); have hIn:=hI.Vj h2; rw [<- X5,Mf] at hIn; have Vr:=pw (bits:=bits) c.args; rw [<- X5] at Vr
 refine .region (.mv ?_)
 refine .fa fc ?_
 refine .ld bj ?_
 refine .mv ?_
 refine .mv ?_
 refine .bw [0,1] [] OU (pv (c:=30) (gl:=gl) (op:=c.op) (ws:=gj) (width:=n.aa.getD ((c.out).toNat) 0) hg om hIn om om) U (.named U U (.aj U U (.aj U U (.aj U U .nil)))) ⟨U,U,trivial⟩ U ae (fun _ h=>by cases h) (fun _ h=>by cases h) ae ae ?_
 rintro r aJ ⟨Z7,Vs,Qz,Vt,Q0,rfl,rfl⟩ _
 exact ⟨⟨rfl,(by intro ob aW; simp only [List.mem_cons,List.not_mem_nil,or_false] at aW; rcases aW with rfl | rfl <;> rfl),.inl rfl⟩,(.bQ U ae (.nil (.ret (⟨_,_,U,U,_,_,⟨Qz,om,hI.Qx h2 (by rw [Mf]; exact Q0)⟩,U,U⟩))))⟩
open Go Go.AW
theorem xp{n:ab}(hf:bh n){i:Int}(h:0 <= i /\ i < n.cells.length):Src (n.cell i).kind ↔ ¬ bR (n.cell i).kind /\ (n.cell i).kind ≠ 7:=by
 have h1:=(hf.cellAt h).2.1.kind
 unfold Src bR; omega
theorem wC{n:ab}{i:Nat}(h:Src (n.cells.getD i default).kind):nf n (i + 1) = nf n i + (n.wd (n.cells.getD i default).out).toNat:=by rw [nf,if_pos h]
theorem Dq{n:ab}{i:Nat}(h:¬ Src (n.cells.getD i default).kind):nf n (i + 1) = nf n i:=by rw [nf,if_neg h]; rfl
structure q1(n:ab)(gl:List Gate)(bits:List (List Int))(i:Nat):Prop where
 gl:gl = pJ (nf n i)
 bl:bits.length = n.aa.length
 eq:∀ j x,bH n j x -> Src (n.cell j).kind -> j < i -> bits.getD x.toNat [] = pI (nf n j.toNat) (n.wd x).toNat
section
variable {n:ab} {gl l' g0 g1:List Gate} {bits nx Je:List (List Int)} {i k:Nat} {l:List Int} {V:List Bool -> Int -> Nat} {at_:List Int}
theorem q1.init:q1 n [] (List.replicate n.aa.length []) 0:=⟨rfl,by simp,fun j x hd _ h=>by have:=hd.1; omega⟩
theorem q1.skip(h:q1 n gl bits i)(hk:¬ Src (n.cells.getD i default).kind):q1 n gl bits (i + 1) :=
 ⟨by rw [h.gl,Dq hk],h.bl,fun j x hd hs hj=>h.eq j x hd hs (by
  by_cases e:j = i
  ·subst e; exact absurd hs hk
  ·omega)⟩
theorem q1.set(hf : bh n)(h : q1 n gl bits i)(hi : i < n.cells.length)(hk : Src (n.cells.getD i default).kind){w : Nat}(hw : w = (n.wd (n.cells.getD i default).out).toNat) :
  q1 n (gl ++ pJ w) (bits.set (n.cells.getD i default).out.toNat (pI gl.length w)) (i + 1):=by
 have Q3:bH n (i:Int) (n.cells.getD i default).out:=⟨om,((xp hf (i:=(i:Int)) om).1 hk).2,rfl⟩
 have nK:=hf.fS Q3
 unfold In at nK
 refine ⟨by rw [h.gl,BY,wC hk,hw],by rw [List.length_set]; exact h.bl,fun j x hd hs hj=>?_⟩
 have Qi:=hf.fS hd
 unfold In at Qi
 by_cases e:x = (n.cells.getD i default).out
 ·subst e
  have e2:=hf.unique hd Q3
  subst e2
  rw [bx,if_pos ⟨rfl,by rw [h.bl]; omega⟩,h.gl,kC,hw,Int.toNat_natCast]
 ·have fH:j ≠ (i:Int):=fun e2=>by subst e2; exact e hd.2.2.symm
  rw [bx,if_neg om]
  exact h.eq j x hd hs om
theorem q1.len(hf:bh n)(h:q1 n gl bits i):gl.length <= 64 * i:=by rw [h.gl,kC]; exact Cq hf.lq i
theorem q1.dP(h:q1 n gl bits i):Good gl:=by rw [h.gl]; exact rV _
structure qZ(n:ab)(l:List Int)(V:List Bool -> Int -> Nat)(at_:List Int)(gl:List Gate)(bits:List (List Int))(k:Nat):Prop where
 ext:Ext (pJ (nf n n.cells.length)) gl
 len:gl.length <= 64 * n.cells.length + 1700 * k
 bl:bits.length = n.aa.length
 wk:∀ j x,bH n j x -> (bR (n.cell j).kind -> l.idxOf j < k) -> Wk 30 gl (bits.getD x.toNat []) (n.wd x).toNat (fun ins=>V ins x) (at_.getD x.toNat 0)
theorem qZ.init(hf:bh n)(hV:VI n V)(hA:tz n at_)(h:q1 n gl bits n.cells.length):qZ n l V at_ gl bits 0:=by
 refine ⟨by rw [h.gl]; exact .refl (rV _),by have:=h.len hf; omega,h.bl,fun j x hd hc=>?_⟩
 have Hk:¬ bR (n.cell j).kind:=fun e=>by have:=hc e; omega
 have hs:Src (n.cell j).kind:=(xp hf hd.1).2 ⟨Hk,hd.2.1⟩
 have hj:=hd.1
 have Na:Src (n.cells.getD j.toNat default).kind:=hs
 have hw:(n.cells.getD j.toNat default).out = x:=hd.2.2
 have h1:=wC Na
 have h2:=wB (n:=n) (i:=j.toNat + 1) (j:=n.cells.length) om
 rw [hw] at h1
 have h3:=JS (c:=30) (s:=nf n j.toNat) (w:=(n.wd x).toNat) (n:=nf n n.cells.length) om
 rw [h.eq j x hd hs om,h.gl]
 have h4:at_.getD x.toNat 0 = 30:=by
  rw [hA.eq j x hd]
  have Vu:=Hk
  unfold bR at Vu
  unfold jV l4
  rw [if_neg Hk,if_neg om,if_neg om,if_neg om]; rfl
 rw [h4]
 refine h3.as fun ins=>?_
 rw [(hV ins).eq j x hd,if_neg Hk]
 unfold Me
 rw [show (n.cell j).out = x from hw]
theorem qZ.skip(ho:Ord n l)(h:qZ n l V at_ gl bits k)(hk:k < l.length)(hc:¬ bR (n.cell (l.getD k 0)).kind):qZ n l V at_ gl bits (k + 1):=by
 refine ⟨h.ext,by have:=h.len; omega,h.bl,fun j x hd hj=>h.wk j x hd fun K7=>?_⟩
 have h1:=hj K7
 rcases Nat.lt_or_ge (l.idxOf j) k with h2 | h2
 ·exact h2
 ·exfalso
  have gQ:l.idxOf j < l.length:=List.idxOf_lt_length_of_mem (ho.mem hd.1)
  have h3:l.getD (l.idxOf j) 0 = j:=by rw [List.getD_eq_getElem?_getD,List.getElem?_eq_getElem gQ]; exact List.getElem_idxOf gQ
  rw [show l.idxOf j = k by omega] at h3
  rw [h3] at hc; exact hc K7
theorem qZ.ci(hv:VT n)(ha:∀ c ∈ n.cells,c.args.length <= 6)(ho:Ord n l)(hA:tz n at_)(h:qZ n l V at_ gl bits k)(hk:k < l.length)(hc:bR (n.cell (l.getD k 0)).kind):CI n (n.cell (l.getD k 0)) gl bits V at_:=by
 have hr:=ho.rE _ (bC hk)
 have nK:n.cell (l.getD k 0) ∈ n.cells:=getD_in om
 refine ⟨hv.formed.lq,hc,hv.formed.cellAt hr,hv.fit.cells _ om,ha _ nK,h.bl,fun x hx=>?_,fun x hx=>?_⟩
 ·obtain ⟨j,hj,h1⟩:=ho.lt hr hc hx
  rw [vh ho.nd hk] at h1
  exact h.wk j x hj fun _=>h1
 ·obtain ⟨j,hj,h1⟩:=ho.lt hr hc hx
  rw [vh ho.nd hk] at h1
  have h2:=hA.bound hv ho j x hj
  have h3:=ho.len
  have h4:=hv.eK
  omega
theorem qZ.set(hf : bh n)(ho : Ord n l)(hV : VI n V)(hA : tz n at_)(h : qZ n l V at_ gl bits k)(hk : k < l.length)(hc : bR (n.cell (l.getD k 0)).kind){out : List Int}
  (he:Ext gl l') (hl:l'.length <= gl.length + 1700) (hw:Wk 30 l' out (n.ow (n.cell (l.getD k 0))).toNat (fun ins=>lu n (n.cell (l.getD k 0)) (V ins)) (jV n at_ (n.cell (l.getD k 0)))) :
  qZ n l V at_ l' (bits.set (n.cell (l.getD k 0)).out.toNat out) (k + 1):=by
 have hr:=ho.rE _ (bC hk)
 have Q3:bH n (l.getD k 0) (n.cell (l.getD k 0)).out:=⟨hr,fun h7=>by unfold bR at hc; omega,rfl⟩
 have nK:=hf.fS Q3
 unfold In at nK
 refine ⟨h.ext.trans he,Nat.le_trans hl (Nat.le_trans (Nat.add_le_add_right h.len _) (by rw [Nat.mul_add]; exact Nat.le_of_eq (Nat.add_assoc ..))),by rw [List.length_set]; exact h.bl,fun j x hd hj=>?_⟩
 have Qi:=hf.fS hd
 unfold In at Qi
 by_cases e:x = (n.cell (l.getD k 0)).out
 ·subst e
  have e2:=hf.unique hd Q3
  subst e2
  rw [bx,if_pos ⟨rfl,by rw [h.bl]; omega⟩,hA.eq _ _ hd]
  have e3:n.ow (n.cell (l.getD k 0)) = n.wd (n.cell (l.getD k 0)).out:=by unfold ab.ow; rw [if_pos nK.1]
  rw [e3] at hw
  refine hw.as fun ins=>?_
  rw [(hV ins).eq _ _ hd,if_pos hc]
 ·have fH:j ≠ l.getD k 0:=fun e2=>by subst e2; exact e hd.2.2.symm
  rw [bx,if_neg om]
  refine (h.wk j x hd fun K7=>?_).ext he
  have h1:=hj K7
  rcases Nat.lt_or_ge (l.idxOf j) k with h2 | h2
  ·exact h2
  ·exfalso
   have gQ:l.idxOf j < l.length:=List.idxOf_lt_length_of_mem (ho.mem hd.1)
   have h3:l.getD (l.idxOf j) 0 = j:=by rw [List.getD_eq_getElem?_getD,List.getElem?_eq_getElem gQ]; exact List.getElem_idxOf gQ
   rw [show l.idxOf j = k by omega] at h3
   exact fH h3.symm
structure GC(n:ab)(V:List Bool -> Int -> Nat)(at_:List Int)(gl:List Gate)(bits:List (List Int)):Prop where
 ext:Ext (pJ (nf n n.cells.length)) gl
 len:gl.length <= 1764 * n.cells.length
 bl:bits.length = n.aa.length
 wk:∀ x,In x n.aa.length -> Wk 30 gl (bits.getD x.toNat []) (n.wd x).toNat (fun ins=>V ins x) (at_.getD x.toNat 0)
theorem qZ.done(hf:bh n)(ho:Ord n l)(h:qZ n l V at_ gl bits k)(hk:k = l.length):GC n V at_ gl bits :=
 ⟨h.ext,by have:=h.len; have:=ho.len; omega,h.bl,fun x hx=>by
  obtain ⟨j,hj⟩:=hf.kg hx
  exact h.wk j x hj fun _=>by rw [hk]; exact List.idxOf_lt_length_of_mem (ho.mem hj.1)⟩
def Q4(n:ab)(V:List Bool -> Int -> Nat)(c:Cell)(ins:List Bool):Nat:=if V ins (c.args.getD 0 0) = 1 /\ V ins n.freeze ≠ 1 then V ins (c.args.getD 1 0) else V ins c.out
def AY(n:ab)(at_:List Int)(c:Cell):Int:=max (max (at_.getD (c.args.getD 1 0).toNat 0 + 40) (at_.getD (c.args.getD 0 0).toNat 0 + 80)) (max (at_.getD n.freeze.toNat 0 + 80) (at_.getD c.out.toNat 0 + 40))
structure yQ(n:ab)(V:List Bool -> Int -> Nat)(at_:List Int)(gl:List Gate)(bits:List (List Int))(c:Cell):Prop where
 al:c.args.length = 2
 X6:In (c.args.getD 0 0) n.aa.length /\ In (c.args.getD 1 0) n.aa.length
 out:In c.out n.aa.length
 wide:dz (n.wd c.out)
 w1:n.wd (c.args.getD 1 0) = n.wd c.out
 sl:(bits.getD (c.args.getD 0 0).toNat []).length = 1
 yl:(bits.getD (c.args.getD 1 0).toNat []).length = (n.wd c.out).toNat
 ol:(bits.getD c.out.toNat []).length = (n.wd c.out).toNat
 s:Wr 30 gl ((bits.getD (c.args.getD 0 0).toNat []).getD 0 0) (fun ins=>decide (V ins (c.args.getD 0 0) = 1)) (at_.getD (c.args.getD 0 0).toNat 0)
 y:∀ k,k < (n.wd c.out).toNat -> Wr 30 gl ((bits.getD (c.args.getD 1 0).toNat []).getD k 0) (fun ins=>(V ins (c.args.getD 1 0)).testBit k) (at_.getD (c.args.getD 1 0).toNat 0)
 o:∀ k,k < (n.wd c.out).toNat -> Wr 30 gl ((bits.getD c.out.toNat []).getD k 0) (fun ins=>(V ins c.out).testBit k) (at_.getD c.out.toNat 0)
 y2:∀ ins,V ins (c.args.getD 1 0) < 2 ^ (n.wd c.out).toNat
 o2:∀ ins,V ins c.out < 2 ^ (n.wd c.out).toNat
theorem Wk.FF{c:Int}{a:List Int}{w:Nat}{N:List Bool -> Nat}{t:Int}(h:Wk c gl a w N t)(hw:w = 1):a.length = 1 /\ Wr c gl (a.getD 0 0) (fun ins=>decide (N ins = 1)) t:=by
 subst hw
 refine ⟨h.len,(h.bit 0 om).as fun ins=>?_⟩
 have h1:=h.lt ins
 have h2:N ins = 0 \/ N ins = 1:=by omega
 rcases h2 with h2 | h2 <;> rw [h2] <;> rfl
theorem GC.Z8(hf:bh n)(ht:Fit n)(h:GC n V at_ gl bits)(hi:i < n.cells.length)(h4:(n.cells.getD i default).kind = 4):yQ n V at_ gl bits (n.cells.getD i default):=by
 have kW:=hf.cells i hi
 have tI:(n.cells.getD i default).args.length = 2:=kW.2.1.k4 h4
 have a0:=kW.1 _ (bC (l:=(n.cells.getD i default).args) (i:=0) om)
 have a1:=kW.1 _ (bC (l:=(n.cells.getD i default).args) (i:=1) om)
 have kG:=kW.2.2.2 om
 have oK:=ht.cells i hi
 simp only [Fits,h4,Int.reduceEq,false_and,true_and,false_or,or_false] at oK
 have e3:n.ow (n.cells.getD i default) = n.wd (n.cells.getD i default).out:=by unfold ab.ow; rw [if_pos kG.1]
 rw [e3] at oK
 have k0:=h.wk _ a0
 have k1:=h.wk _ a1
 have ko:=h.wk _ kG
 have e0:(n.wd ((n.cells.getD i default).args.getD 0 0)).toNat = 1:=by rw [show n.wd ((n.cells.getD i default).args.getD 0 0) = 1 from oK.1]; rfl
 have e1:n.wd ((n.cells.getD i default).args.getD 1 0) = n.wd (n.cells.getD i default).out:=oK.2.1
 rw [e1] at k1
 obtain ⟨b1,b2⟩:=k0.FF e0
 exact ⟨tI,⟨a0,a1⟩,kG,hf.lq _ (getD_in (by unfold In at kG; omega)),e1,b1,k1.len,ko.len,b2,k1.bit,ko.bit,k1.lt,ko.lt⟩
structure Ct(n:ab)(V:List Bool -> Int -> Nat)(at_:List Int)(g0 gl:List Gate)(nx:List (List Int))(i:Nat):Prop where
 ext:Ext g0 gl
 len:gl.length <= g0.length + 200 * i
 nl:nx.length = n.cells.length
 eq:∀ j,j < i -> if (n.cells.getD j default).kind = 4 then Wk 30 gl (nx.getD j []) (n.wd (n.cells.getD j default).out).toNat (Q4 n V (n.cells.getD j default)) (AY n at_ (n.cells.getD j default)) else nx.getD j [] = []
 emp:∀ j,i <= j -> nx.getD j [] = []
theorem Jf{m j:Nat}:(List.replicate m ([]:List Int)).getD j [] = []:=by
 rw [List.getD_eq_getElem?_getD,List.getElem?_replicate]; split <;> rfl
theorem Ct.init(hg:Good g0):Ct n V at_ g0 g0 (List.replicate n.cells.length []) 0:=⟨.refl hg,om,by simp,fun j hj=>by omega,fun j _=>Jf⟩
theorem Ct.skip(h:Ct n V at_ g0 gl nx i)(hk:(n.cells.getD i default).kind ≠ 4):Ct n V at_ g0 gl nx (i + 1) :=
 ⟨h.ext,by have:=h.len; omega,h.nl,fun j hj=>by
  by_cases e:j = i
  ·subst e; rw [if_neg hk]; exact h.emp j (Nat.le_refl _)
  ·exact h.eq j om,fun j hj=>h.emp j om⟩
structure Hl(n:ab)(V:List Bool -> Int -> Nat)(at_:List Int)(i:Nat)(nx:List (List Int))(g1 gl:List Gate)(Je:List (List Int))(k:Nat):Prop where
 ml:xx 30 g1 gl (Je.getD i []) (fun k ins=>(Q4 n V (n.cells.getD i default) ins).testBit k) (AY n at_ (n.cells.getD i default)) k
 nl:Je.length = nx.length
 ot:∀ j,j ≠ i -> Je.getD j [] = nx.getD j []
theorem Hl.init(h:Ct n V at_ g0 gl nx i)(hg:Good g1):Hl n V at_ i nx g1 g1 nx 0:=⟨by rw [h.emp i (Nat.le_refl _)]; exact .init hg,rfl,fun _ _=>rfl⟩
theorem Hl.step{c : Cell}{s v : Int}{row : List Int}(hr : yQ n V at_ g0 bits c)(he : Ext g0 g1)(hc : n.cells.getD i default = c)(hi : i < nx.length)(h : Hl n V at_ i nx g1 gl Je k)(hk : k < (n.wd c.out).toNat)
  (hs:Wr 30 g1 s (fun ins=>decide (V ins (c.args.getD 0 0) = 1) && !decide (V ins n.freeze = 1)) (AY n at_ c - 50)) (hv:Wr 30 g1 v (fun ins=>!(decide (V ins (c.args.getD 0 0) = 1) && !decide (V ins n.freeze = 1))) (AY n at_ c - 40))
  (qE:row = Je.getD i [] ++ [(gl.length:Int) + 2]) :
  Hl n V at_ i nx g1 (yw gl s v ((bits.getD (c.args.getD 1 0).toNat []).getD k 0) ((bits.getD c.out.toNat []).getD k 0)) (Je.set i row) (k + 1):=by
 subst hc qE
 refine ⟨?_,by rw [List.length_set]; exact h.nl,fun j hj=>by rw [bx,if_neg om]; exact h.ot j hj⟩
 rw [bx,if_pos ⟨rfl,by rw [h.nl]; exact hi⟩]
 refine h.ml.choose hs hv ((hr.y k hk).ext he) ((hr.o k hk).ext he) om om (by unfold AY; omega) (by unfold AY; omega) fun ins=>?_
 unfold Q4
 by_cases h1:V ins ((n.cells.getD i default).args.getD 0 0) = 1 <;> by_cases h2:V ins n.freeze = 1 <;> simp only [h1,h2,true_and,false_and,ne_eq,not_true_eq_false,not_false_eq_true,if_true,if_false,decide_true,decide_false,Bool.not_true,Bool.not_false,Bool.and_true,Bool.and_false,Bool.false_eq_true]
theorem Hl.done(h : Ct n V at_ g0 gl nx i)(hi : i < n.cells.length)(h4 : (n.cells.getD i default).kind = 4)(hr : yQ n V at_ g1 bits (n.cells.getD i default))(he : Ext gl g1)(hl : g1.length ≤ gl.length + 2)(hj : Hl n V at_ i nx g1 l' Je k)(hk : k = (n.wd (n.cells.getD i default).out).toNat) :
  Ct n V at_ g0 l' Je (i + 1):=by
 have hw:=hr.wide
 unfold dz at hw
 have JO:=hj.ml.len
 have X7:=hj.ml.ext
 refine ⟨(h.ext.trans he).trans X7,by have:=h.len; omega,hj.nl.trans h.nl,fun j oG=>?_,fun j oG=>?_⟩
 ·by_cases e:j = i
  ·subst e
   rw [if_pos h4]
   refine Ws.wk hj.ml.ws (by rw [hj.ml.ol,hk]) fun ins=>?_
   unfold Q4
   split
   ·exact hr.y2 ins
   ·exact hr.o2 ins
  ·have h1:=h.eq j om
   rw [hj.ot j e]
   by_cases h5:(n.cells.getD j default).kind = 4
   ·rw [if_pos h5] at h1 ⊢; exact h1.ext (he.trans X7)
   ·rw [if_neg h5] at h1 ⊢; exact h1
 ·rw [hj.ot j om]; exact h.emp j om
theorem yQ.ext{c:Cell}(h:yQ n V at_ gl bits c)(he:Ext gl g1):yQ n V at_ g1 bits c:=⟨h.al,h.X6,h.out,h.wide,h.w1,h.sl,h.yl,h.ol,h.s.ext he,fun k hk=>(h.y k hk).ext he,fun k hk=>(h.o k hk).ext he,h.y2,h.o2⟩
theorem yQ.en{c : Cell}{th : Int}(h : yQ n V at_ gl bits c)(hg : Good gl)(ht : Wr 30 gl th (fun ins => !decide (V ins n.freeze = 1)) (at_.getD n.freeze.toNat 0 + 10)) :
  Ext gl (gl ++ [⟨5,(bits.getD (c.args.getD 0 0).toNat []).getD 0 0,th⟩]) /\ Ext (gl ++ [⟨5,(bits.getD (c.args.getD 0 0).toNat []).getD 0 0,th⟩]) ((gl ++ [⟨5,(bits.getD (c.args.getD 0 0).toNat []).getD 0 0,th⟩]) ++ [⟨4,(gl.length:Int),0⟩]) /\
  Wr 30 ((gl ++ [⟨5,(bits.getD (c.args.getD 0 0).toNat []).getD 0 0,th⟩]) ++ [⟨4,(gl.length:Int),0⟩]) (gl.length:Int) (fun ins=>decide (V ins (c.args.getD 0 0) = 1) && !decide (V ins n.freeze = 1)) (AY n at_ c - 50) /\
  Wr 30 ((gl ++ [⟨5,(bits.getD (c.args.getD 0 0).toNat []).getD 0 0,th⟩]) ++ [⟨4,(gl.length:Int),0⟩]) (((gl ++ [(⟨5,(bits.getD (c.args.getD 0 0).toNat []).getD 0 0,th⟩:Gate)]).length:Nat):Int) (fun ins=>!(decide (V ins (c.args.getD 0 0) = 1) && !decide (V ins n.freeze = 1))) (AY n at_ c - 40):=by
 have e1:=Ext.two (k:=5) hg ae h.s ht
 have w1:=h.s.and (u:=AY n at_ c - 50) ht (by unfold AY; omega) (by unfold AY; omega)
 have e2:=Ext.not e1.dP w1
 have w2:=w1.not (u:=AY n at_ c - 40) om
 exact ⟨e1,e2,w1.ext e2,w2⟩
structure mQ(n:ab)(V:List Bool -> Int -> Nat)(at_:List Int)(gl:List Gate)(bits nx:List (List Int)):Prop where
 ord:∃ l,Ord n l
 vi:VI n V
 MR:tz n at_
 ext:Ext (pJ (nf n n.cells.length)) gl
 len:gl.length <= 1000000
 bl:bits.length = n.aa.length
 wk:∀ x,In x n.aa.length -> Wk 30 gl (bits.getD x.toNat []) (n.wd x).toNat (fun ins=>V ins x) (at_.getD x.toNat 0)
 nl:nx.length = n.cells.length
 nx:∀ j,j < n.cells.length -> if (n.cells.getD j default).kind = 4 then Wk 30 gl (nx.getD j []) (n.wd (n.cells.getD j default).out).toNat (Q4 n V (n.cells.getD j default)) (AY n at_ (n.cells.getD j default)) else nx.getD j [] = []
theorem Ct.done(ho:Ord n l)(hV:VI n V)(hA:tz n at_)(hf:GC n V at_ g0 bits)(he:Ext g0 g1)(h1:g1.length <= g0.length + 1)(h:Ct n V at_ g1 gl nx i)(hi:i = n.cells.length)(hn:n.cells.length <= 100):mQ n V at_ gl bits nx :=
 ⟨⟨l,ho⟩,hV,hA,(hf.ext.trans he).trans h.ext,by have:=hf.len; have:=h.len; omega,hf.bl,fun x hx=>(hf.wk x hx).ext (he.trans h.ext),h.nl,fun j hj=>h.eq j om⟩
end
theorem lR.zero{n:ab}{l:List Int}{e:Int}(h:lR n l e)(he:e = 0):bh n /\ Fit n /\ Acyclic n /\ Ord n l:=by
 rcases h with ⟨_,_,h⟩ | ⟨_,_,_,h⟩ | ⟨_,_,_,_,h⟩ | ⟨h1,h2,h3,h4,_⟩
 ·omega
 ·omega
 ·omega
 ·exact ⟨h1,h2,h3,h4⟩
structure px where
 cb:List Gate
 bits:List (List Int)
 next:List (List Int)
instance:Inhabited px:=⟨⟨[],[],[]⟩⟩
def px.row(m:px):List X:=[.fz 3 (m.cb.map Gate.row),.fz 1 (m.bits.map dc),.fz 1 (m.next.map dc)]
def px.own(m:px):List X:=[.dH 3 (m.cb.map Gate.row),.dH 1 (m.bits.map dc),.dH 1 (m.next.map dc)]
theorem px.bA(m:px):X.bu m.row = true:=rfl
def si(n:ab)(m:px)(e:Int):Prop:=(mH n ≠ 0 /\ e = mH n) \/ (mH n = 0 /\ e = 0 /\ ∃ V at_,mQ n V at_ m.cb m.bits m.next)
theorem si.err{n:ab}{m:px}{e:Int}(h:si n m e):e = mH n:=by
 rcases h with ⟨_,h⟩ | ⟨h1,h2,_⟩
 ·exact h
 ·rw [h1,h2]
open Go Go.AW Go.Proofs
theorem Ba{w:Int}:aw Try.prog 92 [vi w] [] [] (fun r o=>r = .v (.bool (decide (Src w))) /\ o = []):=by
 refine aw.of Try.func92 U U U (n:=11) ae (aH U) (.sr (.an ?_))
 refine .nil (.seq (.sr (.mv ?_)))
 refine .nil (.block (.seq (.sr (.vl (Y.ql U U) (.an (.nil ?_))))))
 refine .bm U (fun c4=>?_) (fun c4=>?_)
 refine .skip (.aO U (.sr (.an (.nil (.ret ?_)))))
 exact .rb rfl (dt (by (simp only [Src]) <;> (first | omega | grind)))
 refine .sr (.vl (Y.ql U U) (.an (.nil ?_)))
 refine .bm U (fun c4=>?_) (fun c4=>?_)
 refine .skip (.aO U (.sr (.an (.nil (.ret ?_)))))
 exact .rb rfl (dt (by (simp only [Src]) <;> (first | omega | grind)))
 refine .sr (.vl (Y.ql U U) (.an (.nil ?_)))
 refine .bm U (fun c4=>?_) (fun c4=>?_)
 refine .skip (.aO U (.sr (.an (.nil (.ret ?_)))))
 exact .rb rfl (dt (by (simp only [Src]) <;> (first | omega | grind)))
 refine .sr (.vl (Y.ql U U) (.an (.nil ?_)))
 refine .bm U (fun c4=>?_) (fun c4=>?_)
 refine .skip (.aO U (.sr (.an (.nil (.ret ?_)))))
 exact .rb rfl (dt (by (simp only [Src]) <;> (first | omega | grind)))
 refine .sr (.vl (Y.ql U U) (.an (.nil ?_)))
 refine .bm U (fun c4=>?_) (fun c4=>?_)
 refine .skip (.aO U (.sr (.an (.nil (.ret ?_)))))
 exact .rb rfl (dt (by (simp only [Src]) <;> (first | omega | grind)))
 refine .region (.vl (Y.ql U U) (.an (.nil ?_)))
 refine .bm U (fun c4=>?_) (fun c4=>?_)
 refine .sr (.an (.nil (.ret ?_)))
 exact .rb rfl (dt (by (simp only [Src]) <;> (first | omega | grind)))
 refine .skip (.sr (.an (.nil (.ret ?_))))
 exact .rb rfl (df (by (simp only [Src]) <;> (first | omega | grind)))
theorem xq{n:ab}(hs:n.Small)(MF:n.aa.length + n.ins.length <= 17592186044416)(hn:n.cells.length <= 100 /\ n.aa.length <= 1000 /\ n.cM.length <= 1000 /\ n.streams.length <= 1000 /\ n.ins.length <= 1000)(X8:∀ c ∈ n.cells,c.args.length <= 6):aw Try.prog 47 [.agg (ab.row n)] [] [] (fun r o=>∃ (m:px) (e:Int),si n m e /\ r = .tup [.agg (px.own m),vi e] /\ o = []):=by
 refine aw.Rq Try.func47 U U U (n:=188) ae (aH U) (.sr (.box 101 U U U U U ae ?_))
 refine .alloc 102 jZ U U ae ?_
 refine .an ?_
 refine .nil (.seq (.sh (Sh.eQ 101 U U) (.region (.vl (Y.zb gm U U (aH U) U U) (.oP OE (vf (n:=n) hs MF) U (.aj U U .nil) ae ?_)))))
 rintro _ ⟨vp,Z9,Mh,rfl,_⟩
 refine ⟨U,(.oR U ae (.iX U U ae (.vl (Y.qn U U U) (.bQ U ae (.sh (Sh.cG (d:=4) (vp.map ah) U iJ (cC.map aI)) (.an ?_))))))⟩
 refine .nil (.seq (.sr (.mv ?_)))
 refine .vl (Y.zl U U) (.nil (.aA U (fun AO=>?_) (fun AO=>?_)))
 refine .sr (.vl (Y.qh rM jZ U U U) (.sh (Sh.K6 (d:=27) 600 3 [] [.v (.slice none 0 0),.v (.slice none 0 0)] U U U U) (.sh (Sh.K6 (d:=27) 601 1 [.aL 600 3 0 0] [.v (.slice none 0 0)] U U U U) (.sh (Sh.K6 (d:=27) 602 1 [.aL 600 3 0 0,.aL 601 1 0 0] [] U U U U) (.mv ?_)))))
 refine .ai oZ U U U U U U (aH U) U ?_
 refine .an (.nil (.ret ?_))
 exact ⟨_,U,_,_,_,(((Sh.kL (d:=0) 0 600 U U U U sm U ae).then (Sh.kL (d:=0) 1 601 U U U U sm U ae)).then (Sh.kL (d:=0) 2 602 U U U U sm U ae)),U,U,⟨[],[],[]⟩,Z9,.inl ⟨by rw [<- Mh.err]; exact AO,Mh.err⟩,U,U⟩
 obtain ⟨hf,ht,Q7,ho⟩:=Mh.zero (by simpa using AO); obtain ⟨V,hV⟩:=VI.ex hf ho; obtain ⟨at_,hA⟩:=Md hf ho; have hv:VT n:=⟨hf,ht,Q7,hs,om,om,fun c hc=>by have:=X8 c hc; omega,om,om,om⟩
 refine .skip (.sr (.vl (Y.qh JE JI U U U) (.box 130 U U U U U ae ?_)))
 refine .an ?_
 refine .nil (.seq (.sh (Sh.eu 130 701 3 0 U U U U ae) (.dW (⟨[(1,.fp (ab.row n) 0),(2,.ptr 102 0 0 0),(4,.fz 1 (vp.map ah)),(6,.ptr 130 0 0 0),(7,.ptr 107 0 0 0)],[(102,.cells [.v (.slice none 0 0),.v (.slice none 0 0),.v (.slice none 0 0)]),(107,.cells [.fz 3 (([]:List Gate).map Gate.row),.aL 134 1 0 ((List.replicate n.aa.length ([]:List Int)).length),.aL 138 1 0 ((List.replicate n.cells.length ([]:List Int)).length)]),(130,.cells [.aL 701 3 0 0]),(134,.rows 1 ((List.replicate n.aa.length ([]:List Int)).map dc)),(138,.rows 1 ((List.replicate n.cells.length ([]:List Int)).map iK)),(701,.rows 3 (([]:List Gate).map Gate.row))]⟩) U ?_ ?_)))
 refine .blind 0 U au (ax.fieldAddr bO U U) ae (.load 1 U au bt U U U U U ae (.blind 2 U au (ax.len (n:=n.aa.length) a7 U (congrArg some (List.length_map ..))) ae ?_))
 refine .blind 4 U au (ax.fieldAddr bX U U) ae (.load 5 U au gk U U U U U ae (.blind 6 U au (ax.len (n:=n.cells.length) dV U (congrArg some (List.length_map ..))) ae ?_))
 refine .yj ?_
 refine .three 3 7 9 U U U au ?_ ?_ ?_
 refine .makeSlice (n:=n.aa.length) dI pX U U U U aG aG ae ?_
 refine .sh (Sh.Q6 (d:=34) (z':=dc []) U U U (.yR .nil)) (.sh (Sh.dr (d:=34) (n:=(List.replicate n.aa.length ([]:List Int)).length) 134 ((List.replicate n.aa.length ([]:List Int)).map dc) U iJ (aU U) ae) (.nil ⟨U,(.two 7 9 U U au ?_ ?_)⟩))
 refine .makeSlice (n:=n.cells.length) dI pX U U U U om om ae ?_
 refine .sh (Sh.p8 (d:=38) 1 U) (.sh (Sh.dr (d:=38) (n:=(List.replicate n.cells.length ([]:List Int)).length) 138 ((List.replicate n.cells.length ([]:List Int)).map iK) U iJ (aU U) ae) (.nil ⟨U,(.two 8 9 U U au ?_ ?_)⟩))
 refine .vl (Y.qh rM jZ U U U) (.sh (Sh.Ev (d:=39) 3 0 U U) (.nil ⟨U,(.one 9 U au (.alloc 107 jZ U U ae ?_))⟩))
 refine .nil ⟨U,(.one 10 U au (.ai oZ U U U U U U (aH U) U ?_))⟩
 exact .nil ⟨U,(.done au (Le.mk (.c4 (.c .nil)) (.c4 (.c (.c .nil)))))⟩
 refine .alloc 107 jZ U U ae ?_
 refine .nil ⟨U,(.one 8 U au (.vl (Y.qh rM jZ U U U) (.sh (Sh.Ev (d:=39) 3 0 U U) (.nil ⟨U,(.one 10 U au (.ai oZ U U U U U U (aH U) U ?_))⟩))))⟩
 exact .nil ⟨U,(.done au (Le.mk (.c4 (.c .nil)) (.c4 (.c (.c .nil)))))⟩
 refine .alloc 107 jZ U U ae ?_
 refine .nil ⟨U,(.one 7 U au (.makeSlice (n:=n.cells.length) dI pX U U U U om om ae ?_))⟩
 refine .sh (Sh.p8 (d:=38) 1 U) (.sh (Sh.dr (d:=38) (n:=(List.replicate n.cells.length ([]:List Int)).length) 138 ((List.replicate n.cells.length ([]:List Int)).map iK) U iJ (aU U) ae) (.nil ⟨U,(.one 8 U au (.vl (Y.qh rM jZ U U U) (.sh (Sh.Ev (d:=39) 3 0 U U) (.nil ⟨U,(.one 10 U au (.ai oZ U U U U U U (aH U) U ?_))⟩))))⟩))
 exact .nil ⟨U,(.done au (Le.mk (.c4 (.c .nil)) (.c4 (.c (.c .nil)))))⟩
 refine .makeSlice (n:=n.cells.length) dI pX U U U U om om ae ?_
 refine .sh (Sh.p8 (d:=38) 1 U) (.sh (Sh.dr (d:=38) (n:=(List.replicate n.cells.length ([]:List Int)).length) 138 ((List.replicate n.cells.length ([]:List Int)).map iK) U iJ (aU U) ae) (.nil ⟨U,(.two 3 9 U U au ?_ ?_)⟩))
 refine .makeSlice (n:=n.aa.length) dI pX U U U U aG aG ae ?_
 refine .sh (Sh.Q6 (d:=34) (z':=dc []) U U U (.yR .nil)) (.sh (Sh.dr (d:=34) (n:=(List.replicate n.aa.length ([]:List Int)).length) 134 ((List.replicate n.aa.length ([]:List Int)).map dc) U iJ (aU U) ae) (.nil ⟨U,(.two 8 9 U U au ?_ ?_)⟩))
 refine .vl (Y.qh rM jZ U U U) (.sh (Sh.Ev (d:=39) 3 0 U U) (.nil ⟨U,(.one 9 U au (.alloc 107 jZ U U ae ?_))⟩))
 refine .nil ⟨U,(.one 10 U au (.ai oZ U U U U U U (aH U) U ?_))⟩
 exact .nil ⟨U,(.done au (Le.mk (.c4 (.c .nil)) (.c4 (.c (.c .nil)))))⟩
 refine .alloc 107 jZ U U ae ?_
 refine .nil ⟨U,(.one 8 U au (.vl (Y.qh rM jZ U U U) (.sh (Sh.Ev (d:=39) 3 0 U U) (.nil ⟨U,(.one 10 U au (.ai oZ U U U U U U (aH U) U ?_))⟩))))⟩
 exact .nil ⟨U,(.done au (Le.mk (.c4 (.c .nil)) (.c4 (.c (.c .nil)))))⟩
 refine .alloc 107 jZ U U ae ?_
 refine .nil ⟨U,(.one 3 U au (.makeSlice (n:=n.aa.length) dI pX U U U U aG aG ae ?_))⟩
 refine .sh (Sh.Q6 (d:=34) (z':=dc []) U U U (.yR .nil)) (.sh (Sh.dr (d:=34) (n:=(List.replicate n.aa.length ([]:List Int)).length) 134 ((List.replicate n.aa.length ([]:List Int)).map dc) U iJ (aU U) ae) (.nil ⟨U,(.one 8 U au (.vl (Y.qh rM jZ U U U) (.sh (Sh.Ev (d:=39) 3 0 U U) (.nil ⟨U,(.one 10 U au (.ai oZ U U U U U U (aH U) U ?_))⟩))))⟩))
 exact .nil ⟨U,(.done au (Le.mk (.c4 (.c .nil)) (.c4 (.c (.c .nil)))))⟩
 refine .alloc 107 jZ U U ae ?_
 refine .nil ⟨U,(.two 3 7 U U au ?_ ?_)⟩
 refine .makeSlice (n:=n.aa.length) dI pX U U U U aG aG ae ?_
 refine .sh (Sh.Q6 (d:=34) (z':=dc []) U U U (.yR .nil)) (.sh (Sh.dr (d:=34) (n:=(List.replicate n.aa.length ([]:List Int)).length) 134 ((List.replicate n.aa.length ([]:List Int)).map dc) U iJ (aU U) ae) (.nil ⟨U,(.one 7 U au (.makeSlice (n:=n.cells.length) dI pX U U U U om om ae ?_))⟩))
 refine .sh (Sh.p8 (d:=38) 1 U) (.sh (Sh.dr (d:=38) (n:=(List.replicate n.cells.length ([]:List Int)).length) 138 ((List.replicate n.cells.length ([]:List Int)).map iK) U iJ (aU U) ae) (.nil ⟨U,(.one 8 U au (.vl (Y.qh rM jZ U U U) (.sh (Sh.Ev (d:=39) 3 0 U U) (.nil ⟨U,(.one 10 U au (.ai oZ U U U U U U (aH U) U ?_))⟩))))⟩))
 exact .nil ⟨U,(.done au (Le.mk (.c4 (.c .nil)) (.c4 (.c (.c .nil)))))⟩
 refine .makeSlice (n:=n.cells.length) dI pX U U U U om om ae ?_
 refine .sh (Sh.p8 (d:=38) 1 U) (.sh (Sh.dr (d:=38) (n:=(List.replicate n.cells.length ([]:List Int)).length) 138 ((List.replicate n.cells.length ([]:List Int)).map iK) U iJ (aU U) ae) (.nil ⟨U,(.one 3 U au (.makeSlice (n:=n.aa.length) dI pX U U U U aG aG ae ?_))⟩))
 refine .sh (Sh.Q6 (d:=34) (z':=dc []) U U U (.yR .nil)) (.sh (Sh.dr (d:=34) (n:=(List.replicate n.aa.length ([]:List Int)).length) 134 ((List.replicate n.aa.length ([]:List Int)).map dc) U iJ (aU U) ae) (.nil ⟨U,(.one 8 U au (.vl (Y.qh rM jZ U U U) (.sh (Sh.Ev (d:=39) 3 0 U U) (.nil ⟨U,(.one 10 U au (.ai oZ U U U U U U (aH U) U ?_))⟩))))⟩))
 exact .nil ⟨U,(.done au (Le.mk (.c4 (.c .nil)) (.c4 (.c (.c .nil)))))⟩
 refine .seq (.sr (.fa bX ?_))
 refine .ld gk ?_
 refine .vl (Y.qx (n:=n.cells.length) dV U (congrArg some (List.length_map ..))) (.mv ?_)
 refine .nil (.block ?_)
 refine .eh (fun (gv:Nat) (qA:List (List Int)) (ku:List Gate)=>⟨[(1,.fp (ab.row n) 0),(2,.ptr 102 0 0 0),(4,.fz 1 (vp.map ah)),(6,.ptr 130 0 0 0),(7,.ptr 107 0 0 0),(41,.fz 6 (n.cells.map Cell.row)),(42,vi n.cells.length),(43,vi gv)],[(102,.cells [.v (.slice none 0 0),.v (.slice none 0 0),.v (.slice none 0 0)]),(107,.cells [.fz 3 (([]:List Gate).map Gate.row),.aL 134 1 0 ((List.replicate n.aa.length ([]:List Int)).length),.aL 138 1 0 ((List.replicate n.cells.length ([]:List Int)).length)]),(130,.cells [.aL 701 3 0 ku.length]),(134,.rows 1 (qA.map dc)),(138,.rows 1 ((List.replicate n.cells.length ([]:List Int)).map iK)),(701,.rows 3 (ku.map Gate.row))]⟩) (fun gv qA ku=>(qA.length = (List.replicate n.aa.length ([]:List Int)).length) /\ ((gv:Int) <= (n.cells.length:Int)) /\ (q1 n ku qA gv)) (fun gv qA ku=>((n.cells.length:Int) - (gv:Int)).toNat) 0 (List.replicate n.aa.length ([]:List Int)) ([]:List Gate) (⟨om,om,q1.init⟩) (Le.mk (.c4 (.c2 (.c (.cons (ak U bc) .nil)))) (.c2 (.cons (ay U eR) (.c2 (.c .nil))))) (fun gv qA ku PX=>?_)
 obtain ⟨Q8,YR,hS⟩:=PX
 refine .sr (.vl (Y.zc U U) (.nil (.seq (.aA U (fun Jc=>?_) (fun Jc=>?_)))))
 refine .skip ?_
 refine .lk (fun (pR:List (List Int)) (nA:List Gate)=>⟨[(1,.fp (ab.row n) 0),(2,.ptr 102 0 0 0),(4,.fz 1 (vp.map ah)),(6,.ptr 130 0 0 0),(7,.ptr 107 0 0 0),(41,.fz 6 (n.cells.map Cell.row)),(42,vi n.cells.length),(43,vi gv)],[(102,.cells [.v (.slice none 0 0),.v (.slice none 0 0),.v (.slice none 0 0)]),(107,.cells [.fz 3 (([]:List Gate).map Gate.row),.aL 134 1 0 ((List.replicate n.aa.length ([]:List Int)).length),.aL 138 1 0 ((List.replicate n.cells.length ([]:List Int)).length)]),(130,.cells [.aL 701 3 0 nA.length]),(134,.rows 1 (pR.map dc)),(138,.rows 1 ((List.replicate n.cells.length ([]:List Int)).map iK)),(701,.rows 3 (nA.map Gate.row))]⟩) (fun pR nA=>(pR.length = (List.replicate n.aa.length ([]:List Int)).length) /\ (q1 n nA pR (gv + 1))) ?_ (fun pR nA Q9=>?_)
 refine .block (.sr (.vl (Y.qs (m:=gv) dV U U bc (ao (d:=default) om)) (.vl (Y.zb fA U U (aH U) U U) (.alloc 109 ez U U ae (.ai g6 U U U U U U (aH U) U ?_)))))
 refine .nil (.sr (.fa dC ?_))
 refine .ld bj ?_
 refine .aZ Th (Ba (w:=((n.cells.getD gv default).kind))) U (.aj U U .nil) ae U (.nil (.aA U (fun RU=>?_) (fun RU=>?_)))
 have nK:=hf.fS (i:=(gv:Int)) (w:=(n.cells.getD gv default).out) ⟨om,((xp hf (i:=(gv:Int)) om).1 RU).2,rfl⟩; unfold In at nK; have v3:=hf.lq _ (getD_in (l:=n.aa) (i:=(n.cells.getD gv default).out.toNat) (d:=0) om); unfold dz at v3; have Um:=hS.len hf; have hSb:=hS.bl
 refine .g7 [107,109] [107,109,134,138] U (.blind 0 U au (ax.fieldAddr kA U U) ae (.load 1 U au lU U U U U U ae ?_))
 refine .blind 2 U au (ax.fieldAddr eo U U) ae (.load 3 U au bj U U U U U ae (.blind 4 U au (ax.move U U) ae ?_))
 refine .blind 5 U au (ax.fieldAddr bO U U) ae (.load 6 U au bt U U U U U ae (.blind 7 U au (ax.fieldAddr eo U U) ae ?_))
 refine .load 8 U au bj U U U U U ae (.blind 9 U au (ax.kj (m:=((n.cells.getD gv default).out).toNat) a7 U U om (ao (d:=0) om)) ae ?_)
 refine .load 10 U au bj U U U U U ae (.GZ U U (bZ.cells U U U (bZ.cells U U U bZ.nil)) (.one 11 U au (.bw [130,701] [] OT (sd (gl:=ku) (x:=n.aa.getD (((n.cells.getD gv default).out).toNat) 0) aG om) U (.named U U (.aj U U .nil)) ⟨U,U,trivial⟩ U ae (fun _ h=>by cases h) (fun _ h=>by cases h) ae ae ?_)))
 rintro r aJ ⟨rfl,rfl⟩ _
 refine ⟨⟨rfl,(by intro ob aW; simp only [List.mem_cons,List.not_mem_nil,or_false] at aW; rcases aW with rfl | rfl <;> rfl),.inl rfl⟩,(.nil ⟨U,(.one 12 U au (.vl (Y.qt (m:=((n.cells.getD gv default).out).toNat) dI U U om om) (.nil ⟨U,(.one 13 U au (.sh (Sh.cG (d:=61) ((pI ku.length (n.aa.getD (((n.cells.getD gv default).out).toNat) 0).toNat).map ah) U iJ (cC.map aI)) (.gU ((qA.set (((n.cells.getD gv default).out).toNat) (pI ku.length (n.aa.getD (((n.cells.getD gv default).out).toNat) 0).toNat)).map dc) fJ U U U U U U U (aM (d:=[]) om) (aH U) (e9 U) ?_)))⟩)))⟩)⟩
 refine .nil ⟨U,(.done au (⟨qA.set (((n.cells.getD gv default).out).toNat) (pI ku.length (n.aa.getD (((n.cells.getD gv default).out).toNat) 0).toNat),ku ++ pJ (n.aa.getD (((n.cells.getD gv default).out).toNat) 0).toNat,⟨mz,hS.set hf om RU U⟩,Le.mk (.c4 (.c2 (.c (.c .nil)))) (.c2 (.cons (ay U eR) (.c2 (.c .nil))))⟩))⟩
 refine .skip (⟨qA,ku,⟨om,hS.skip RU⟩,Le.mk (.c4 (.c2 (.c (.c .nil)))) (.c2 (.cons (ay U eR) (.c2 (.c .nil))))⟩)
 obtain ⟨MS,Gb⟩:=Q9
 refine .region (.vl (Y.qb U U aG) (.mv ?_))
 refine .nil (⟨gv + 1,pR,nA,⟨om,om,Gb⟩,om,Le.mk (.c4 (.c2 (.c (.cons (ak U bc) .nil)))) (.c2 (.cons (ay U eR) (.c2 (.c .nil))))⟩)
 refine .exit (.seq (.sr (.mv ?_)))
 refine .vl (Y.qx (n:=vp.length) a7 U (congrArg some (List.length_map ..))) (.mv ?_)
 refine .nil (.block ?_)
 refine .eh (fun (fO:Nat) (dk:List (List Int)) (dY:List Gate)=>⟨[(1,.fp (ab.row n) 0),(2,.ptr 102 0 0 0),(6,.ptr 130 0 0 0),(7,.ptr 107 0 0 0),(64,.fz 1 (vp.map ah)),(65,vi vp.length),(66,vi fO)],[(102,.cells [.v (.slice none 0 0),.v (.slice none 0 0),.v (.slice none 0 0)]),(107,.cells [.fz 3 (([]:List Gate).map Gate.row),.aL 134 1 0 ((List.replicate n.aa.length ([]:List Int)).length),.aL 138 1 0 ((List.replicate n.cells.length ([]:List Int)).length)]),(130,.cells [.aL 701 3 0 dY.length]),(134,.rows 1 (dk.map dc)),(138,.rows 1 ((List.replicate n.cells.length ([]:List Int)).map iK)),(701,.rows 3 (dY.map Gate.row))]⟩) (fun fO dk dY=>(dk.length = (List.replicate n.aa.length ([]:List Int)).length) /\ ((fO:Int) <= (vp.length:Int)) /\ (qZ n vp V at_ dY dk fO)) (fun fO dk dY=>((vp.length:Int) - (fO:Int)).toNat) 0 qA ku (⟨om,om,qZ.init hf hV hA (by rw [show n.cells.length = gv by omega]; exact hS)⟩) (Le.mk (.c4 (.c2 (.cons (ak U bc) .nil))) (.c2 (.cons (ay U eR) (.c2 (.c .nil))))) (fun fO dk dY Vv=>?_)
 obtain ⟨Q8,ZA,hK⟩:=Vv
 refine .sr (.vl (Y.zc U U) (.nil (.seq (.aA U (fun L3=>?_) (fun L3=>?_)))))
 refine .skip (.seq (.block (.seq ?_)))
 have hr:=ho.rE _ (bC (l:=vp) (i:=fO) om); have ta:=ho.len; have hKb:=hK.bl; have hKl:=hK.len
 refine .region (.vl (Y.qs (m:=fO) a7 U U bc (ao (d:=0) om)) (.ld bj ?_))
 refine .an (.nil (.sr ?_))
 refine .fa bX ?_
 refine .ld gk ?_
 refine .mv ?_
 refine .vl (Y.qs (m:=(vp.getD fO 0).toNat) dV U U om (ao (d:=default) om)) (.vl (Y.zb fA U U (aH U) U U) (.alloc 112 ez U U ae (.ai g6 U U U U U U (aH U) U ?_)))
 refine .nil ?_
 refine .lk (fun (pS:List (List Int)) (mi:List Gate)=>⟨[(1,.fp (ab.row n) 0),(2,.ptr 102 0 0 0),(6,.ptr 130 0 0 0),(7,.ptr 107 0 0 0),(64,.fz 1 (vp.map ah)),(65,vi vp.length),(66,vi fO)],[(102,.cells [.v (.slice none 0 0),.v (.slice none 0 0),.v (.slice none 0 0)]),(107,.cells [.fz 3 (([]:List Gate).map Gate.row),.aL 134 1 0 ((List.replicate n.aa.length ([]:List Int)).length),.aL 138 1 0 ((List.replicate n.cells.length ([]:List Int)).length)]),(130,.cells [.aL 701 3 0 mi.length]),(134,.rows 1 (pS.map dc)),(138,.rows 1 ((List.replicate n.cells.length ([]:List Int)).map iK)),(701,.rows 3 (mi.map Gate.row))]⟩) (fun pS mi=>(pS.length = (List.replicate n.aa.length ([]:List Int)).length) /\ (qZ n vp V at_ mi pS (fO + 1))) ?_ (fun pS mi QA=>?_)
 refine .sr (.fa dC ?_)
 refine .ld bj ?_
 refine .aZ HT (pF (w:=((n.cells.getD ((vp.getD fO 0).toNat) default).kind))) U (.aj U U .nil) ae U (.nil (.aA U (fun Ay=>?_) (fun Ay=>?_)))
 have ZB:=hf.fS (i:=vp.getD fO 0) (w:=(n.cells.getD ((vp.getD fO 0).toNat) default).out) ⟨hr,fun h7=>by have h8:=Ay; unfold bR at h8; have h9:(n.cells.getD ((vp.getD fO 0).toNat) default).kind = 7:=h7; omega,rfl⟩; unfold In at ZB
 refine .g7 [107,112] [107,112,134,138] U (.blind 0 U au (ax.fieldAddr kA U U) ae (.load 1 U au lU U U U U U ae ?_))
 refine .blind 2 U au (ax.fieldAddr eo U U) ae (.load 3 U au bj U U U U U ae (.blind 4 U au (ax.move U U) ae ?_))
 refine .fe 5 U au gm U U U (aH U) U U ae (.fe 6 U au fA U U U (aH U) U U ae (.blind 7 U au (ax.fieldAddr kA U U) ae ?_))
 refine .load 8 U au lU U U U U U ae (.GZ U U (bZ.cells U U U (bZ.cells U U U bZ.nil)) (.one 9 U au (.bw [130,701] [134] Ti (AX (gl:=dY) (n:=n) (c:=(n.cells.getD ((vp.getD fO 0).toNat) default)) (bits:=dk) (V:=V) (at_:=at_) hK.ext.dP aG (hK.ci hv X8 ho hA om Ay) om (hs.Ew _ (getD_in om))) U (.named U U (.aj U U (.aj U U (.cB U U (b7 aG) (b8 aG) .nil)))) ⟨U,U,trivial⟩ U ae ae (kH U (bq lO)) ae ae ?_)))
 rintro r aJ ⟨ZC,GD,Mi,rfl,rfl⟩ _
 refine ⟨⟨rfl,(by intro ob aW; simp only [List.mem_cons,List.not_mem_nil,or_false] at aW; rcases aW with rfl | rfl <;> rfl),.inr ⟨(ke mF _),(by intro ob aW; simp only [List.mem_cons,List.not_mem_nil,or_false] at aW; rcases aW with rfl | rfl; exact ⟨trivial,trivial⟩; exact ke Gate.lP _)⟩⟩,(.nil ⟨U,(.one 10 U au (.vl (Y.qt (m:=((n.cells.getD ((vp.getD fO 0).toNat) default).out).toNat) dI U U om om) (.nil ⟨U,(.one 11 U au (.sh (Sh.cG (d:=87) (GD.map ah) U iJ (cC.map aI)) (.gU ((dk.set (((n.cells.getD ((vp.getD fO 0).toNat) default).out).toNat) GD).map dc) fJ U U U U U U U (aM (d:=[]) om) (aH U) (e9 U) ?_)))⟩)))⟩)⟩
 refine .nil ⟨U,(.done au (⟨dk.set (((n.cells.getD ((vp.getD fO 0).toNat) default).out).toNat) GD,ZC,⟨mz,hK.set hf ho hV hA om Ay Mi.1 Mi.2.1 Mi.2.2⟩,Le.mk (.c4 (.c2 (.c .nil))) (.c2 (.cons (ay U eR) (.c2 (.c .nil))))⟩))⟩
 refine .skip (⟨dk,dY,⟨om,hK.skip ho om Ay⟩,Le.mk (.c4 (.c2 (.c .nil))) (.c2 (.cons (ay U eR) (.c2 (.c .nil))))⟩)
 obtain ⟨MT,GF⟩:=QA
 refine .seq ?_
 have YS:=GF.len; have ta:=ho.len
 refine .region (.mv ?_)
 refine .vl (Y.zm U U) (.fa nY ?_)
 refine .ld uG ?_
 refine .vl (Y.qx (n:=mi.length) rN U U) (.vl (Y.qr U U) (.nil (.aA U (fun pY=>?_) (fun pY=>?_))))
 exfalso; omega
 refine .skip (.region (.vl (Y.qb U U aG) (.mv ?_)))
 refine .nil (⟨fO + 1,pS,mi,⟨om,om,GF⟩,om,Le.mk (.c4 (.c2 (.cons (ak U bc) .nil))) (.c2 (.cons (ay U eR) (.c2 (.c .nil))))⟩)
 refine .exit (.seq ?_)
 have hF:GC n V at_ dY dk:=hK.done hf ho om; have hFb:=hF.bl; have hFl:=hF.len; have IE:=hf.freeze; unfold In at IE; obtain ⟨QT,Nk⟩:=(hF.wk n.freeze hf.freeze).FF (by rw [show n.wd n.freeze = 1 from ht.freeze]; rfl); have ZD:=Nk.not (u:=at_.getD n.freeze.toNat 0 + 10) (Int.le_refl _); have Vw:=Ext.not hF.ext.dP Nk
 refine .region (.mv ?_)
 refine .fa kA ?_
 refine .ld lU ?_
 refine .fa sC ?_
 refine .ld bj ?_
 refine .vl (Y.qt (m:=(n.freeze).toNat) dI U U om om) (.vl (Y.za bt U (aM (d:=[]) om) U U) (.vl (Y.qs (m:=0) a7 U U bc (ao (d:=0) om)) (.ld bj ?_)))
 refine .bw [130,701] [] uF (ie (gl:=dY) (a:=(dk.getD ((n.freeze).toNat) []).getD 0 0) om) U (.named U U (.aj U U .nil)) ⟨U,U,trivial⟩ U ae (fun _ h=>by cases h) (fun _ h=>by cases h) ae ae ?_
 rintro r aJ ⟨rfl,rfl⟩ _
 refine ⟨⟨rfl,(by intro ob aW; simp only [List.mem_cons,List.not_mem_nil,or_false] at aW; rcases aW with rfl | rfl <;> rfl),.inl rfl⟩,(.an ?_)⟩
 refine .nil (.seq (.sr (.fa bX ?_)))
 refine .ld gk ?_
 refine .vl (Y.qx (n:=n.cells.length) dV U (congrArg some (List.length_map ..))) (.mv ?_)
 refine .nil (.block ?_)
 refine .eh (fun (b5:Nat) (mj:List (List Int)) (ef:List Gate)=>⟨[(2,.ptr 102 0 0 0),(6,.ptr 130 0 0 0),(7,.ptr 107 0 0 0),(13,vi dY.length),(108,.fz 6 (n.cells.map Cell.row)),(109,vi n.cells.length),(110,vi b5)],[(102,.cells [.v (.slice none 0 0),.v (.slice none 0 0),.v (.slice none 0 0)]),(107,.cells [.fz 3 (([]:List Gate).map Gate.row),.aL 134 1 0 ((List.replicate n.aa.length ([]:List Int)).length),.aL 138 1 0 ((List.replicate n.cells.length ([]:List Int)).length)]),(130,.cells [.aL 701 3 0 ef.length]),(134,.rows 1 (dk.map dc)),(138,.rows 1 (mj.map iK)),(701,.rows 3 (ef.map Gate.row))]⟩) (fun b5 mj ef=>(mj.length = (List.replicate n.cells.length ([]:List Int)).length) /\ ((b5:Int) <= (n.cells.length:Int)) /\ (Ct n V at_ (dY ++ [(⟨4,(dk.getD ((n.freeze).toNat) []).getD 0 0,0⟩:Gate)]) ef mj b5)) (fun b5 mj ef=>((n.cells.length:Int) - (b5:Int)).toNat) 0 (List.replicate n.cells.length ([]:List Int)) (dY ++ [(⟨4,(dk.getD ((n.freeze).toNat) []).getD 0 0,0⟩:Gate)]) (⟨om,om,Ct.init Vw.dP⟩) (Le.mk (.c4 (.c2 (.cons (ak U bc) .nil))) (.c2 (.cons (ay U eR) (.c2 (.c .nil))))) (fun b5 mj ef LF=>?_)
 obtain ⟨QB,TU,hN⟩:=LF
 refine .sr (.vl (Y.zc U U) (.nil (.seq (.aA U (fun xf=>?_) (fun xf=>?_)))))
 refine .skip ?_
 refine .lk (fun (pT:List (List Int)) (nC:List Gate)=>⟨[(2,.ptr 102 0 0 0),(6,.ptr 130 0 0 0),(7,.ptr 107 0 0 0),(13,vi dY.length),(108,.fz 6 (n.cells.map Cell.row)),(109,vi n.cells.length),(110,vi b5)],[(102,.cells [.v (.slice none 0 0),.v (.slice none 0 0),.v (.slice none 0 0)]),(107,.cells [.fz 3 (([]:List Gate).map Gate.row),.aL 134 1 0 ((List.replicate n.aa.length ([]:List Int)).length),.aL 138 1 0 ((List.replicate n.cells.length ([]:List Int)).length)]),(130,.cells [.aL 701 3 0 nC.length]),(134,.rows 1 (dk.map dc)),(138,.rows 1 (pT.map iK)),(701,.rows 3 (nC.map Gate.row))]⟩) (fun pT nC=>(pT.length = (List.replicate n.cells.length ([]:List Int)).length) /\ (Ct n V at_ (dY ++ [(⟨4,(dk.getD ((n.freeze).toNat) []).getD 0 0,0⟩:Gate)]) nC pT (b5 + 1))) ?_ (fun pT nC QC=>?_)
 refine .block (.sr (.mv ?_))
 refine .vl (Y.qs (m:=b5) dV U U bc (ao (d:=default) om)) (.vl (Y.zb fA U U (aH U) U U) (.alloc 115 ez U U ae ?_))
 refine .an ?_
 refine .ai g6 U U U U U U (aH U) U (.nil (.seq (.sr (.fa dC ?_))))
 refine .ld bj ?_
 refine .vl (Y.zl U U) (.nil (.aA U (fun n5=>?_) (fun n5=>?_)))
 refine .exit (⟨mj,ef,⟨om,hN.skip n5⟩,Le.mk (.c4 (.c2 (.c .nil))) (.c2 (.cons (ay U eR) (.c2 (.c .nil))))⟩)
 have h4:(n.cells.getD b5 default).kind = 4:=Classical.not_not.1 n5; have Ed:=hF.Z8 hf ht om h4; have hR:=Ed.ext (Vw.trans hN.ext); have hRa:=hR.al; have ZE:=hR.X6; unfold In at ZE; have Tp:=hR.out; unfold In at Tp; have QY:=hR.sl; have hRy:=hR.yl; have hRl:=hR.ol; have ZF:=hR.wide; unfold dz at ZF; have Vx:=hN.len; simp only [List.length_append,List.length_singleton] at Vx; have hNn:=hN.nl; obtain ⟨e1,e2,w1,w2⟩:=hR.en hN.ext.dP (ZD.ext hN.ext)
 refine .skip (.seq (.mA 12 U au ?_))
 refine .val (Y.zh U U) ae (.val (Y.qp kA U U) ae (.val (Y.za lU U U U U) ae (.val (Y.qp bU U U) ae (.val (Y.za bt U U U U) ae (.val (Y.qs (m:=0) a7 U U bc (ao (d:=0) om)) ae (.val (Y.za bj U U U U) ae (.val (Y.qt (m:=(((n.cells.getD b5 default).args).getD 0 0).toNat) dI U U om om) ae (.val (Y.za bt U (aM (d:=[]) om) U U) ae (.val (Y.qs (m:=0) a7 U U bc (ao (d:=0) om)) ae (.val (Y.za bj U U U U) ae (.val (Y.zh U U) ae (.nil ?_))))))))))))
 refine .bw [130,701] [] tK (gC (gl:=ef) (a:=(dk.getD ((((n.cells.getD b5 default).args).getD 0 0).toNat) []).getD 0 0) (b:=(dY.length:Int)) om) U (.named U U (.aj U U (.aj U U .nil))) ⟨U,U,trivial⟩ U ae (fun _ h=>by cases h) (fun _ h=>by cases h) ae ae ?_
 rintro r aJ ⟨rfl,rfl⟩ _
 refine ⟨⟨rfl,(by intro ob aW; simp only [List.mem_cons,List.not_mem_nil,or_false] at aW; rcases aW with rfl | rfl <;> rfl),.inl rfl⟩,(.an (.nil (.sr ?_)))⟩
 refine .mv ?_
 refine .mv ?_
 refine .bw [130,701] [] uF (ie (gl:=ef ++ [(⟨5,(dk.getD ((((n.cells.getD b5 default).args).getD 0 0).toNat) []).getD 0 0,(dY.length:Int)⟩:Gate)]) (a:=(ef.length:Int)) aG) U (.named U U (.aj U U .nil)) ⟨U,U,trivial⟩ U ae (fun _ h=>by cases h) (fun _ h=>by cases h) ae ae ?_
 rintro r aJ ⟨rfl,rfl⟩ _
 refine ⟨⟨rfl,(by intro ob aW; simp only [List.mem_cons,List.not_mem_nil,or_false] at aW; rcases aW with rfl | rfl <;> rfl),.inl rfl⟩,(.an (.nil (.sr ?_)))⟩
 refine .fa kA ?_
 refine .ld lU ?_
 refine .fa eo ?_
 refine .ld bj ?_
 refine .vl (Y.qt (m:=((n.cells.getD b5 default).out).toNat) dI U U om om) (.vl (Y.za bt U (aM (d:=[]) om) U U) (.vl (Y.qx (n:=(dk.getD (((n.cells.getD b5 default).out).toNat) []).length) a7 U (congrArg some (List.length_map ..))) (.mv ?_)))
 refine .nil (.block ?_)
 refine .eh (fun (gP:Nat) (jM:List (List Int)) (iA:List Gate)=>⟨[(2,.ptr 102 0 0 0),(6,.ptr 130 0 0 0),(7,.ptr 107 0 0 0),(13,vi dY.length),(14,vi b5),(15,.ptr 115 0 0 0),(16,vi ef.length),(17,vi (((ef ++ [(⟨5,(dk.getD ((((n.cells.getD b5 default).args).getD 0 0).toNat) []).getD 0 0,(dY.length:Int)⟩:Gate)]).length:Nat):Int)),(108,.fz 6 (n.cells.map Cell.row)),(109,vi n.cells.length),(110,vi b5),(139,.fz 1 ((dk.getD (((n.cells.getD b5 default).out).toNat) []).map ah)),(140,vi (((dk.getD (((n.cells.getD b5 default).out).toNat) []).length:Nat):Int)),(141,vi gP)],[(102,.cells [.v (.slice none 0 0),.v (.slice none 0 0),.v (.slice none 0 0)]),(107,.cells [.fz 3 (([]:List Gate).map Gate.row),.aL 134 1 0 ((List.replicate n.aa.length ([]:List Int)).length),.aL 138 1 0 ((List.replicate n.cells.length ([]:List Int)).length)]),(115,.cells [vi ((n.cells.getD b5 default).kind),vi ((n.cells.getD b5 default).op),vi ((n.cells.getD b5 default).out),.fz 1 (((n.cells.getD b5 default).args).map ah),.v (.int .u64 (((n.cells.getD b5 default).num:Nat):Int)),vi ((n.cells.getD b5 default).mem)]),(130,.cells [.aL 701 3 0 iA.length]),(134,.rows 1 (dk.map dc)),(138,.rows 1 (jM.map iK)),(701,.rows 3 (iA.map Gate.row))]⟩) (fun gP jM iA=>(jM.length = (List.replicate n.cells.length ([]:List Int)).length) /\ ((gP:Int) <= (((dk.getD (((n.cells.getD b5 default).out).toNat) []).length:Nat):Int)) /\ (Hl n V at_ b5 mj ((ef ++ [(⟨5,(dk.getD ((((n.cells.getD b5 default).args).getD 0 0).toNat) []).getD 0 0,(dY.length:Int)⟩:Gate)]) ++ [(⟨4,(ef.length:Int),0⟩:Gate)]) iA jM gP)) (fun gP jM iA=>((((dk.getD (((n.cells.getD b5 default).out).toNat) []).length:Nat):Int) - (gP:Int)).toNat) 0 mj ((ef ++ [(⟨5,(dk.getD ((((n.cells.getD b5 default).args).getD 0 0).toNat) []).getD 0 0,(dY.length:Int)⟩:Gate)]) ++ [(⟨4,(ef.length:Int),0⟩:Gate)]) (⟨om,om,Hl.init hN e2.dP⟩) (Le.mk (.c8 (.c4 (.c (.cons (ak U bc) .nil)))) (.c2 (.c (.cons (ay U eR) (.c2 (.c .nil)))))) (fun gP jM iA Mj=>?_)
 obtain ⟨QB,Vy,hq⟩:=Mj
 refine .sr (.vl (Y.zc U U) (.nil (.seq (.aA U (fun AF=>?_) (fun AF=>?_)))))
 refine .skip (.seq (.block (.sr (.mv ?_))))
 refine .vl (Y.qs (m:=gP) a7 U U bc (ao (d:=0) om)) (.ld bj ?_)
 refine .an ?_
 refine .an (.nil ?_)
 have Vf:=hq.ml.ol; have ZG:=hq.ml.len; simp only [List.length_append,List.length_singleton] at ZG
 refine .sh (Sh.Pm 138 801 (0 + b5) (n:=(jM.getD b5 []).length) ((jM.map iK).set (0 + b5) [.no]) U (aM (d:=[]) om) U (aU U) U U) (.Am [27] [107,115,134,138] [107,115,134,138] U (dJ.blind 0 U au au (ax.fieldAddr rL U U) ae (dJ.load 1 U au au lU U U U U U ae ?_)))
 refine .blind 2 U au au (ax.move U U) ae (dJ.blind 3 U au au (ax.fieldAddr rL U U) ae (dJ.load 4 U au au lU U U U U U ae ?_))
 refine .blind 5 U au au (ax.move U U) ae (.blind 6 U au au (ax.wW (m:=b5) dI U U bc om) ae ?_)
 refine .load 7 U au au bt U U (z6 U) U U ae (dJ.blind 8 U au au (ax.move U U) ae (dJ.blind 9 U au au (ax.move U U) ae ?_))
 refine .blind 10 U au au (ax.move U U) ae (dJ.blind 11 U au au (ax.fieldAddr kA U U) ae (dJ.load 12 U au au lU U U U U U ae ?_))
 refine .blind 13 U au au (ax.fieldAddr bU U U) ae (dJ.load 14 U au au bt U U U U U ae ?_)
 refine .blind 15 U au au (ax.kj (m:=1) a7 U U bc (ao (d:=0) om)) ae (.load 16 U au au bj U U U U U ae (.blind 17 U au au (ax.wW (m:=(((n.cells.getD b5 default).args).getD 1 0).toNat) dI U U om om) ae (.load 18 U au au bt U U (aM (d:=[]) om) U U ae (.blind 19 U au au (ax.move U U) ae (.blind 20 U au au (ax.kj (m:=gP) a7 U U bc (ao (d:=0) om)) ae ?_)))))
 refine .load 21 U au au bj U U U U U ae (dJ.blind 22 U au au (ax.move U U) ae (dJ.uH 138 U ?_))
 refine .GZ U U (bZ.cells U U U (bZ.cells U U U (bZ.rows U (bZ.rows U bZ.nil)))) (gL.one 23 U au ?_)
 refine .bw [130,701] [] Ia (choose_spec (gl:=iA) (s:=(ef.length:Int)) (v:=(((ef ++ [(⟨5,(dk.getD ((((n.cells.getD b5 default).args).getD 0 0).toNat) []).getD 0 0,(dY.length:Int)⟩:Gate)]).length:Nat):Int)) (y:=(dk.getD ((((n.cells.getD b5 default).args).getD 1 0).toNat) []).getD gP 0) (n:=(dk.getD (((n.cells.getD b5 default).out).toNat) []).getD gP 0) aG) U (.named U U (.aj U U (.aj U U (.aj U U (.aj U U .nil))))) ⟨U,U,trivial⟩ U ae (fun _ h=>by cases h) (fun _ h=>by cases h) ae ae ?_
 rintro r aJ ⟨rfl,rfl⟩ _
 refine ⟨⟨rfl,(by intro ob aW; simp only [List.mem_cons,List.not_mem_nil,or_false] at aW; rcases aW with rfl | rfl <;> rfl),.inl rfl⟩,(.nil ⟨U,(.one 24 U au (.buildSlice (([((iA.length:Int) + 2)]:List Int).map ah) a7 dD U U U U U (aq (s:=1) (f:=ah) (fun _=>U)) U U U ae ?_))⟩)⟩
 refine .nil ⟨U,(.one 25 U au (.cL ah ((jM.getD b5 []) ++ ([((iA.length:Int) + 2)]:List Int)) a7 dD U U U U (bg aG) (aR aG) (bz aG) aG aG ae ae ?_))⟩
 refine .nil ⟨U,(.one 26 U au (.vl (Y.qt (m:=b5) dI U U bc om) (.nil ⟨U,(.late U (.one 27 U au (.sh (Sh.dA (d:=171) (o:=801) U U (aU om) ae) (.Bw ((jM.set b5 ((jM.getD b5 []) ++ ([((iA.length:Int) + 2)]:List Int))).map iK) fJ U U U (Bx om) ae (xQ U) ?_))))⟩)))⟩
 refine .nil ⟨U,(.done au (.region (.vl (Y.qb U U aG) (.mv ?_))))⟩
 refine .nil (⟨gP + 1,jM.set b5 ((jM.getD b5 []) ++ ([((iA.length:Int) + 2)]:List Int)),yw iA (ef.length:Int) (((ef ++ [(⟨5,(dk.getD ((((n.cells.getD b5 default).args).getD 0 0).toNat) []).getD 0 0,(dY.length:Int)⟩:Gate)]).length:Nat):Int) ((dk.getD ((((n.cells.getD b5 default).args).getD 1 0).toNat) []).getD gP 0) ((dk.getD (((n.cells.getD b5 default).out).toNat) []).getD gP 0),⟨mz,mz,hq.step hR (e1.trans e2) U om om w1 w2 U⟩,om,Le.mk (.c8 (.c4 (.c (.cons (ak U bc) .nil)))) (.c2 (.c (.cons (ay U eR) (.c2 (.c .nil)))))⟩)
 refine .exit (⟨jM,iA,⟨om,Hl.done hN om h4 (hR.ext (e1.trans e2)) (e1.trans e2) (by simp) hq om⟩,Le.mk (.c4 (.c2 (.c .nil))) (.c2 (.cons (ay U eR) (.c2 (.c .nil))))⟩)
 obtain ⟨MU,FO⟩:=QC
 refine .region (.vl (Y.qb U U aG) (.mv ?_))
 refine .nil (⟨b5 + 1,pT,nC,⟨om,om,FO⟩,om,Le.mk (.c4 (.c2 (.cons (ak U bc) .nil))) (.c2 (.cons (ay U eR) (.c2 (.c .nil))))⟩)
 refine .exit (.seq (.seq ?_))
 have Vx:=hN.len; simp only [List.length_append,List.length_singleton] at Vx
 refine .region (.mv ?_)
 refine .vl (Y.zm U U) (.fa nY ?_)
 refine .ld uG ?_
 refine .vl (Y.qx (n:=ef.length) rN U U) (.vl (Y.qr U U) (.nil (.aA U (fun IJ=>?_) (fun IJ=>?_))))
 exfalso; omega
 refine .skip (.sr (.mv ?_))
 refine .vl (Y.zm U U) (.fa nY ?_)
 refine .ld uG ?_
 refine .fa pE ?_
 refine .ai OY U U U U U U (aH U) U (.nil (.seq (.sh (Sh.AZ 138 (mj.map dc) U (X.rA xR _)) (.region (.vl (Y.zb JF U U (aH U) U U) (.ai oZ U U U U U U (aH U) U ?_))))))
 refine .an (.nil (.ret ?_))
 exact ⟨_,U,_,_,_,(((Sh.kL (d:=0) 0 701 U U U U sm U ae).then (Sh.kL (d:=0) 1 134 U U U U sm U ae)).then (Sh.kL (d:=0) 2 138 U U U U sm U ae)),U,U,⟨ef,dk,mj⟩,0,.inr ⟨uO hf ht Q7,U,V,at_,Ct.done ho hV hA hF Vw (by simp) hN om om⟩,U,U⟩
open Go Go.AW
theorem vq{l : List Gate}{n : Nat}{c : Int}(hc : 0 ≤ c) : ∀ {i : Nat}, i ≤ l.length → ∀ x ∈ fT l (List.replicate n c) i, 0 ≤ x ∧ x ≤ c + 20 * (i : Int)
 | 0,_,x,hx=>by cases hx
 | i + 1,hi,x,hx=>by
  have ih:=vq (l:=l) (n:=n) hc (i:=i) om
  have hg:∀ k:Nat,0 <= (fT l (List.replicate n c) i).getD k 0 /\ (fT l (List.replicate n c) i).getD k 0 <= c + 20 * (i:Int):=fun k=>by
   rcases Nat.lt_or_ge k (fT l (List.replicate n c) i).length with hk | hk
   ·exact ih _ (getD_in hk)
   ·rw [List.getD_eq_getElem?_getD,List.getElem?_eq_none hk]; exact ⟨Int.le_refl _,by show (0:Int) <= _; omega⟩
  have hr:∀ k:Nat,(List.replicate n c).getD k 0 = c \/ (List.replicate n c).getD k 0 = 0:=fun k=>by
   rw [List.getD_eq_getElem?_getD,List.getElem?_replicate]; split
   ·exact .inl rfl
   ·exact .inr rfl
  rw [uX om] at hx
  rcases List.mem_append.1 hx with h1 | h1
  ·have:=ih x h1; omega
  ·rw [List.mem_singleton.1 h1]
   have a1:=hg (l.getD i default).a.toNat
   have a2:=hg (l.getD i default).b.toNat
   have a3:=hr (iZ (l.take i))
   unfold nZ
   (repeat' split) <;> omega
theorem GG{l:List Int}{n:Nat}{c:Int}(hl:l.length = n)(h:∀ j,j < n -> l.getD j 0 = c):l = List.replicate n c:=by
 refine List.ext_getElem (by simp [hl]) fun i h1 h2=>?_
 have h3:=h i om
 rw [List.getD_eq_getElem?_getD,List.getElem?_eq_getElem h1] at h3
 rw [List.getElem_replicate]; exact h3
section
variable {n:ab} {gl:List Gate} {bits nx:List (List Int)} {V:List Bool -> Int -> Nat} {at_:List Int}
theorem si.ok{n:ab}{m:px}{e:Int}(h:si n m e)(h0:mH n = 0):e = 0 /\ ∃ V at_,mQ n V at_ m.cb m.bits m.next:=by
 rcases h with ⟨h1,_⟩ | ⟨_,h2,h3⟩
 ·exact absurd h0 h1
 ·exact ⟨h2,h3⟩
theorem Wk.gI{c:Int}{a:List Int}{w:Int}{N:List Bool -> Nat}{t:Int}(h:Wk c gl a w.toNat N t)(hw:0 <= w):mN a w gl.length :=
 ⟨fun j hj=>⟨(h.bit j (by rw [<- h.len]; exact hj)).lo,(h.bit j (by rw [<- h.len]; exact hj)).hi⟩,by rw [h.len]; omega⟩
theorem mQ.dP(h:mQ n V at_ gl bits nx):Good gl:=h.ext.dP
theorem mQ.GH(h:mQ n V at_ gl bits nx)(hf:bh n){i:Nat}(hi:i < n.aa.length):mN (bits.getD i []) (n.aa.getD i 0) gl.length:=by
 have hw:=hf.lq _ (getD_in (l:=n.aa) (d:=0) hi)
 unfold dz at hw
 exact (h.wk (i:Int) ⟨om,om⟩).gI (by show 0 <= n.aa.getD _ 0; rw [Int.toNat_natCast]; omega)
theorem mQ.GI(h:mQ n V at_ gl bits nx)(hf:bh n){i:Nat}(hi:i < n.cells.length):mN (nx.getD i []) (if (n.cells.getD i default).kind = 4 then n.aa.getD (n.cells.getD i default).out.toNat 0 else 0) gl.length:=by
 have h1:=h.nx i hi
 by_cases h4:(n.cells.getD i default).kind = 4
 ·rw [if_pos h4] at h1 ⊢
  have kG:=(hf.cells i hi).2.2.2 om
  unfold In at kG
  have hw:=hf.lq _ (getD_in (l:=n.aa) (d:=0) (i:=(n.cells.getD i default).out.toNat) om)
  unfold dz at hw
  exact h1.gI (by show 0 <= n.aa.getD _ 0; omega)
 ·rw [if_neg h4] at h1 ⊢
  rw [h1]; exact ⟨fun j hj=>absurd hj (Nat.not_lt_zero _),rfl⟩
theorem mQ.tb(h : mQ n V at_ gl bits nx){i k : Nat}(hi : i < n.aa.length)(hk : k < (bits.getD i []).length) :
  (fT gl (List.replicate (iZ gl) 30) gl.length).getD ((bits.getD i []).getD k 0).toNat 0 <= at_.getD i 0:=by
 have h1:=h.wk (i:Int) ⟨om,om⟩
 rw [Int.toNat_natCast] at h1
 exact (h1.bit k (by rw [<- h1.len]; exact hk)).t
theorem mQ.tn(h : mQ n V at_ gl bits nx){i k : Nat}(hi : i < n.cells.length)(hk : k < (nx.getD i []).length) :
  (n.cells.getD i default).kind = 4 /\ (fT gl (List.replicate (iZ gl) 30) gl.length).getD ((nx.getD i []).getD k 0).toNat 0 <= AY n at_ (n.cells.getD i default):=by
 have h1:=h.nx i hi
 by_cases h4:(n.cells.getD i default).kind = 4
 ·rw [if_pos h4] at h1
  exact ⟨h4,(h1.bit k (by rw [<- h1.len]; exact hk)).t⟩
 ·rw [if_neg h4] at h1
  rw [h1] at hk; cases hk
theorem tz.le(hv:VT n){l:List Int}(ho:Ord n l)(ha:tz n at_){x:Int}(hx:In x n.aa.length):0 <= at_.getD x.toNat 0 /\ at_.getD x.toNat 0 <= 400400:=by
 obtain ⟨j,hj⟩:=hv.formed.kg hx
 have h1:=ha.bound hv ho j x hj
 have h2:l.idxOf j < l.length:=List.idxOf_lt_length_of_mem (ho.mem hj.1)
 have h3:=ho.len
 have h4:=hv.eK
 omega
end
open Go Go.AW Go.Proofs
theorem xr{l:List Gate}{n:Nat}{ins:List Int}{c:Int}(hg:Good l)(hn:n = iZ l)(hl:l.length <= 1000000)(hc:0 <= c /\ c <= 1000)(hi:ins = List.replicate n c):aw Try.prog 41 [.fz 3 (l.map Gate.row),.fz 1 (ins.map ah)] [] [] (fun r o=>r = .dH 1 ((fT l ins l.length).map ah) /\ o = []):=by
 refine aw.of Try.func41 U U U (n:=59) ae (aH U) (.sr (.an (.nil (.sr ?_))))
 refine .an ?_
 refine .sh (Sh.nil (d:=5) 105 1 U ae) (.nil (.sr (.an ?_)))
 refine .nil (.seq (.sr (.an (.nil (.block ?_)))))
 refine .eh (fun (sj:Nat) (fm:Nat) (dF:List Int)=>⟨[(0,.fz 3 (l.map Gate.row)),(1,.fz 1 (ins.map ah)),(5,.aL 105 1 0 dF.length),(6,vi sj),(7,vi fm)],[(105,.rows 1 (dF.map ah))]⟩) (fun sj fm dF=>((fm:Int) <= (l.length:Int)) /\ (dF = fT l ins fm /\ sj = iZ (l.take fm))) (fun sj fm dF=>((l.length:Int) - (fm:Int)).toNat) 0 0 ([]:List Int) (⟨mz,⟨U,U⟩⟩) (Le.mk (.c2 (.cons (aN U aG) (.cons (ak U bc) (.cons (ak U bc) .nil)))) (.c .nil)) (fun sj fm dF AA=>?_)
 obtain ⟨FQ,hO⟩:=AA
 refine .seq (.sr (.mv ?_))
 refine .mv ?_
 refine .vl (Y.qx (n:=l.length) rN U (congrArg some (List.length_map ..))) (.vl (Y.zc U U) (.nil (.aA U (fun xy=>?_) (fun xy=>?_))))
 refine .skip (.seq (.block (.seq ?_)))
 obtain ⟨Co,oA⟩:=hO; have kW:=aX.1 (hg.d fm om); have ta:dF.length = fm:=(by rw [Co,w7 om]); have Mk:∀ x ∈ dF,0 <= x /\ x <= c + 20 * (fm:Int):=(by rw [Co,hi]; exact vq hc.1 om); have ZH:=Ao (l.take fm); rw [List.length_take] at ZH
 refine .region (.mv ?_)
 refine .mv ?_
 refine .vl (Y.qs (m:=fm) rN U U bc (ao (d:=default) om)) (.vl (Y.zb JG U U (aH U) U U) (.alloc 108 yg U U ae (.ai JH U U U U U U (aH U) U ?_)))
 refine .nil (.sr (.an (.nil ?_)))
 refine .lk (fun (vr:Nat) (re:Int)=>⟨[(0,.fz 3 (l.map Gate.row)),(1,.fz 1 (ins.map ah)),(5,.aL 105 1 0 dF.length),(6,vi vr),(7,vi fm),(9,vi re)],[(105,.rows 1 (dF.map ah))]⟩) (fun vr re=>re = nZ dF ins sj (l.getD fm default) /\ vr = iZ (l.take (fm + 1))) ?_ (fun vr re GF=>?_)
 refine .sr (.fa eT ?_)
 refine .ld bj ?_
 refine .nil (.block (.sr (.vl (Y.ql U U) (.an (.nil ?_)))))
 refine .aA U (fun pa=>?_) (fun pa=>?_)
 have zG:=I9 (l:=l) (i:=fm) om pa; have Kv:ins.length = n:=(by rw [hi]; exact List.length_replicate)
 refine .sr (.mv ?_)
 refine .mv ?_
 refine .vl (Y.qs (m:=sj) a7 U U bc (ao (d:=0) om)) (.ld bj ?_)
 refine .an (.nil (.region ?_))
 refine .mv ?_
 refine .vl (Y.qb U U aG) (.an ?_)
 refine .nil (⟨sj + 1,ins.getD sj 0,by first | exact ⟨by unfold nZ; rw [if_pos om],by rw [cJ om,if_pos om,oA]⟩ | exact ⟨by unfold nZ; rw [if_neg om,if_pos om],by rw [cJ om,if_neg om,oA,Nat.add_zero]⟩ | exact ⟨by rw [pN om]; split <;> omega,by rw [cJ om,if_neg om,oA,Nat.add_zero]⟩ | exact ⟨by unfold nZ; rw [if_neg om,if_neg om,if_neg om],by rw [cJ om,if_neg om,oA,Nat.add_zero]⟩,Le.mk (.c2 (.c (.cons (ak U bc) (.c (.cons (ak U bc) .nil))))) (.c .nil)⟩)
 refine .sr (.vl (Y.ql U U) (.an (.nil ?_)))
 refine .aA U (fun sG=>?_) (fun sG=>?_)
 have ga:=Mk _ (getD_in (l:=dF) (i:=(l.getD fm default).a.toNat) (d:=0) om)
 refine .region (.mv ?_)
 refine .fa iy ?_
 refine .ld bj ?_
 refine .vl (Y.qt (m:=((l.getD fm default).a).toNat) a7 U U om om) (.vl (Y.za bj U (aM (d:=0) aG) U U) (.vl (Y.qb U U aG) (.an ?_)))
 refine .nil (⟨sj,(dF.getD (((l.getD fm default).a).toNat) 0) + 10,by first | exact ⟨by unfold nZ; rw [if_pos om],by rw [cJ om,if_pos om,oA]⟩ | exact ⟨by unfold nZ; rw [if_neg om,if_pos om],by rw [cJ om,if_neg om,oA,Nat.add_zero]⟩ | exact ⟨by rw [pN om]; split <;> omega,by rw [cJ om,if_neg om,oA,Nat.add_zero]⟩ | exact ⟨by unfold nZ; rw [if_neg om,if_neg om,if_neg om],by rw [cJ om,if_neg om,oA,Nat.add_zero]⟩,Le.mk (.c2 (.c (.cons (ak U bc) (.c (.cons (ak U bc) .nil))))) (.c .nil)⟩)
 refine .seq (.sr (.vl (Y.ql U U) (.an (.nil ?_))))
 refine .bm U (fun QD=>?_) (fun QD=>?_)
 have ga:=Mk _ (getD_in (l:=dF) (i:=(l.getD fm default).a.toNat) (d:=0) om); have gb:=Mk _ (getD_in (l:=dF) (i:=(l.getD fm default).b.toNat) (d:=0) om)
 refine .skip (.aO U (.gy U au ?_))
 refine .val (Y.zh U U) ae (.val (Y.qp iy U U) ae (.val (Y.za bj U U U U) ae (.val (Y.qt (m:=((l.getD fm default).a).toNat) a7 U U om om) ae (.val (Y.za bj U (aM (d:=0) om) U U) ae (.val (Y.zh U U) ae (.val (Y.qp e8 U U) ae (.val (Y.za bj U U U U) ae (.val (Y.qt (m:=((l.getD fm default).b).toNat) a7 U U om om) ae (.val (Y.za bj U (aM (d:=0) om) U U) ae (.val (Y.ze U U U) ae (.val (Y.qb U U om) ae (.val (Y.qf U U) ae (.nil ?_)))))))))))))
 exact ⟨sj,(if (dF.getD (((l.getD fm default).b).toNat) 0) > (dF.getD (((l.getD fm default).a).toNat) 0) then (dF.getD (((l.getD fm default).b).toNat) 0) else (dF.getD (((l.getD fm default).a).toNat) 0)) + 20,by first | exact ⟨by unfold nZ; rw [if_pos om],by rw [cJ om,if_pos om,oA]⟩ | exact ⟨by unfold nZ; rw [if_neg om,if_pos om],by rw [cJ om,if_neg om,oA,Nat.add_zero]⟩ | exact ⟨by rw [pN om]; split <;> omega,by rw [cJ om,if_neg om,oA,Nat.add_zero]⟩ | exact ⟨by unfold nZ; rw [if_neg om,if_neg om,if_neg om],by rw [cJ om,if_neg om,oA,Nat.add_zero]⟩,Le.mk (.c2 (.c (.cons (ak U bc) (.c (.cons (ak U bc) .nil))))) (.c .nil)⟩
 refine .sr (.vl (Y.ql U U) (.an (.nil ?_)))
 refine .bm U (fun QD=>?_) (fun QD=>?_)
 have ga:=Mk _ (getD_in (l:=dF) (i:=(l.getD fm default).a.toNat) (d:=0) om); have gb:=Mk _ (getD_in (l:=dF) (i:=(l.getD fm default).b.toNat) (d:=0) om)
 refine .skip (.aO U (.gy U au ?_))
 refine .val (Y.zh U U) ae (.val (Y.qp iy U U) ae (.val (Y.za bj U U U U) ae (.val (Y.qt (m:=((l.getD fm default).a).toNat) a7 U U om om) ae (.val (Y.za bj U (aM (d:=0) om) U U) ae (.val (Y.zh U U) ae (.val (Y.qp e8 U U) ae (.val (Y.za bj U U U U) ae (.val (Y.qt (m:=((l.getD fm default).b).toNat) a7 U U om om) ae (.val (Y.za bj U (aM (d:=0) om) U U) ae (.val (Y.ze U U U) ae (.val (Y.qb U U om) ae (.val (Y.qf U U) ae (.nil ?_)))))))))))))
 exact ⟨sj,(if (dF.getD (((l.getD fm default).b).toNat) 0) > (dF.getD (((l.getD fm default).a).toNat) 0) then (dF.getD (((l.getD fm default).b).toNat) 0) else (dF.getD (((l.getD fm default).a).toNat) 0)) + 20,by first | exact ⟨by unfold nZ; rw [if_pos om],by rw [cJ om,if_pos om,oA]⟩ | exact ⟨by unfold nZ; rw [if_neg om,if_pos om],by rw [cJ om,if_neg om,oA,Nat.add_zero]⟩ | exact ⟨by rw [pN om]; split <;> omega,by rw [cJ om,if_neg om,oA,Nat.add_zero]⟩ | exact ⟨by unfold nZ; rw [if_neg om,if_neg om,if_neg om],by rw [cJ om,if_neg om,oA,Nat.add_zero]⟩,Le.mk (.c2 (.c (.cons (ak U bc) (.c (.cons (ak U bc) .nil))))) (.c .nil)⟩
 refine .region (.vl (Y.ql U U) (.an (.nil ?_)))
 refine .bm U (fun QD=>?_) (fun QD=>?_)
 have ga:=Mk _ (getD_in (l:=dF) (i:=(l.getD fm default).a.toNat) (d:=0) om); have gb:=Mk _ (getD_in (l:=dF) (i:=(l.getD fm default).b.toNat) (d:=0) om)
 refine .gy U au (.val (Y.zh U U) ae (.val (Y.qp iy U U) ae (.val (Y.za bj U U U U) ae (.val (Y.qt (m:=((l.getD fm default).a).toNat) a7 U U om om) ae (.val (Y.za bj U (aM (d:=0) om) U U) ae (.val (Y.zh U U) ae (.val (Y.qp e8 U U) ae (.val (Y.za bj U U U U) ae (.val (Y.qt (m:=((l.getD fm default).b).toNat) a7 U U om om) ae (.val (Y.za bj U (aM (d:=0) om) U U) ae (.val (Y.ze U U U) ae (.val (Y.qb U U om) ae (.val (Y.qf U U) ae (.nil ?_))))))))))))))
 exact ⟨sj,(if (dF.getD (((l.getD fm default).b).toNat) 0) > (dF.getD (((l.getD fm default).a).toNat) 0) then (dF.getD (((l.getD fm default).b).toNat) 0) else (dF.getD (((l.getD fm default).a).toNat) 0)) + 20,by first | exact ⟨by unfold nZ; rw [if_pos om],by rw [cJ om,if_pos om,oA]⟩ | exact ⟨by unfold nZ; rw [if_neg om,if_pos om],by rw [cJ om,if_neg om,oA,Nat.add_zero]⟩ | exact ⟨by rw [pN om]; split <;> omega,by rw [cJ om,if_neg om,oA,Nat.add_zero]⟩ | exact ⟨by unfold nZ; rw [if_neg om,if_neg om,if_neg om],by rw [cJ om,if_neg om,oA,Nat.add_zero]⟩,Le.mk (.c2 (.c (.cons (ak U bc) (.c (.cons (ak U bc) .nil))))) (.c .nil)⟩
 refine .skip (⟨sj,0,by first | exact ⟨by unfold nZ; rw [if_pos om],by rw [cJ om,if_pos om,oA]⟩ | exact ⟨by unfold nZ; rw [if_neg om,if_pos om],by rw [cJ om,if_neg om,oA,Nat.add_zero]⟩ | exact ⟨by rw [pN om]; split <;> omega,by rw [cJ om,if_neg om,oA,Nat.add_zero]⟩ | exact ⟨by unfold nZ; rw [if_neg om,if_neg om,if_neg om],by rw [cJ om,if_neg om,oA,Nat.add_zero]⟩,Le.mk (.c2 (.c (.cons (ak U bc) (.c (.cons (ak U bc) .nil))))) (.c .nil)⟩)
 refine .region (.mv ?_)
 refine .mv ?_
 refine .buildSlice (([re]:List Int).map ah) a7 dD U U U U U (aq (s:=1) (f:=ah) (fun _=>U)) U U U ae ?_
 refine .cL ah (dF ++ ([re]:List Int)) a7 dD U U U U (bg aG) (aR aG) (bz aG) aG aG ae ae ?_
 refine .an (.nil (.region ?_))
 refine .mv ?_
 refine .vl (Y.qb U U aG) (.an ?_)
 refine .nil (⟨vr,fm + 1,dF ++ ([re]:List Int),⟨mz,⟨by rw [uX om,<- Co,GF.1,oA],GF.2⟩⟩,om,Le.mk (.c2 (.cons (aN U aG) (.cons (ak U bc) (.cons (ak U bc) .nil)))) (.c .nil)⟩)
 refine .exit (.sr (.mv ?_))
 refine .an ?_
 exact .sh (Sh.dA (d:=4) (o:=105) U U (aU om) ae) (.nil (.ret ⟨_,_,U,U,by rw [hO.1,show fm = l.length by omega]; rfl,U⟩))
theorem vK{n:ab}{m:px}{V:List Bool -> Int -> Nat}{at_:List Int}(hf:bh n)(hM:mQ n V at_ m.cb m.bits m.next)(hn:n.cells.length <= 100 /\ n.aa.length <= 1000):aw Try.prog 48 [.agg (ab.row n),.agg (px.row m)] [] [] (fun r o=>r = .v (.bool true) /\ o = []):=by
 refine aw.of Try.func48 U U U (n:=81) ae (aH U) ?_
 have IM:=hM.bl; have zG:=hM.nl; have tu:=hM.len
 refine .sr (.box 102 U U U U U ae (.box 103 U U U U U ae ?_))
 refine .an ?_
 refine .nil (.seq (.seq (.sh (Sh.eQ 102 U U) (.sh (Sh.eQ 103 U U) (.region (.fa kA ?_))))))
 refine .ld lU ?_
 refine .vl (Y.qx (n:=m.bits.length) dI U (congrArg some (List.length_map ..))) (.fa bO ?_)
 refine .ld bt ?_
 refine .vl (Y.qx (n:=n.aa.length) a7 U (congrArg some (List.length_map ..))) (.vl (Y.zl U U) (.mv ?_))
 refine .aC (d:=15) U (fun ua=>?_) (fun ua=>?_)
 exfalso; omega
 refine .gw 15 (Y.qp rL U U) (.gw 15 (Y.za lU U U U U) (.gw 15 (Y.qx (n:=m.next.length) dI U (congrArg some (List.length_map ..))) (.gw 15 (Y.qp bX U U) (.gw 15 (Y.za gk U U U U) (.gw 15 (Y.qx (n:=n.cells.length) dV U (congrArg some (List.length_map ..))) (.gw 15 (Y.zl U U) (.pk ?_)))))))
 refine .nil (.aA U (fun y9=>?_) (fun y9=>?_))
 exfalso; omega
 refine .skip (.seq (.sr (.an (.nil (.block ?_)))))
 refine .jt (fun (rf:Nat)=>⟨[(2,.fp (ab.row n) 0),(3,.fp (px.row m) 0),(5,vi rf)],[]⟩) (fun rf=>((rf:Int) <= (n.aa.length:Int))) (fun rf=>((n.aa.length:Int) - (rf:Int)).toNat) 0 om (Le.mk (.c2 (.cons (ak U bc) .nil)) .nil) (fun rf AA=>?_)
 have FQ:=AA
 refine .seq (.sr (.mv ?_))
 refine .fa bO ?_
 refine .ld bt ?_
 refine .vl (Y.qx (n:=n.aa.length) a7 U (congrArg some (List.length_map ..))) (.vl (Y.zc U U) (.nil (.aA U (fun PE=>?_) (fun PE=>?_))))
 refine .skip (.seq (.block (.seq ?_)))
 have hp:=hM.GH hf (i:=rf) om; have Kf:=hp.2; have ZI:=hf.lq _ (getD_in (l:=n.aa) (d:=0) (i:=rf) om); unfold dz at ZI
 refine .mA 13 U au (.val (Y.qp kA U U) ae (.val (Y.za lU U U U U) ae (.val (Y.zh U U) ae (.val (Y.qs (m:=rf) dI U U bc (ao (d:=[]) om)) ae (.val (Y.za bt U U U U) ae (.val (Y.qp bO U U) ae (.val (Y.za bt U U U U) ae (.val (Y.zh U U) ae (.val (Y.qs (m:=rf) a7 U U bc (ao (d:=0) om)) ae (.val (Y.za bj U U U U) ae (.val (Y.qp pE U U) ae (.val (Y.za uG U U U U) ae (.val (Y.qx (n:=m.cb.length) rN U (congrArg some (List.length_map ..))) ae (.nil (.aZ OR (tA (a:=(m.bits.getD rf [])) (w:=(n.aa.getD rf 0)) (n:=(m.cb.length:Int)) (aG)) U (.aj U U (.aj U U (.aj U U .nil))) ae U ?_)))))))))))))))
 refine .vl (Y.zn U) (.nil (.cond U (fun RV=>?_) (fun RV=>?_)))
 exact absurd hp (Pp RV)
 replace RV:mN (m.bits.getD rf []) (n.aa.getD rf 0) (m.cb.length:Int):=by simpa using RV
 refine .skip (.region (.mv ?_))
 refine .vl (Y.qb U U aG) (.an ?_)
 refine .nil ⟨rf + 1,om,om,Le.mk (.c2 (.cons (ak U bc) .nil)) .nil⟩
 refine .exit (.seq (.sr (.an (.nil (.block ?_)))))
 refine .jt (fun (nD:Nat)=>⟨[(2,.fp (ab.row n) 0),(3,.fp (px.row m) 0),(6,vi nD)],[]⟩) (fun nD=>((nD:Int) <= (n.cells.length:Int))) (fun nD=>((n.cells.length:Int) - (nD:Int)).toNat) 0 om (Le.mk (.c2 (.cons (ak U bc) .nil)) .nil) (fun nD Ql=>?_)
 have Xd:=Ql
 refine .seq (.sr (.mv ?_))
 refine .fa bX ?_
 refine .ld gk ?_
 refine .vl (Y.qx (n:=n.cells.length) dV U (congrArg some (List.length_map ..))) (.vl (Y.zc U U) (.nil (.aA U (fun T6=>?_) (fun T6=>?_))))
 refine .skip (.seq (.block (.sr (.an (.nil ?_)))))
 refine .iC (fun (rh:Int)=>⟨[(2,.fp (ab.row n) 0),(3,.fp (px.row m) 0),(6,vi nD),(7,vi rh)],[]⟩) (fun rh=>rh = if (n.cells.getD nD default).kind = 4 then n.aa.getD ((n.cells.getD nD default).out).toNat 0 else 0) ?_ (fun rh IL=>?_)
 refine .sr (.fa bX ?_)
 refine .ld gk ?_
 refine .mv ?_
 refine .vl (Y.qs (m:=nD) dV U U bc (ao (d:=default) om)) (.fa dC ?_)
 refine .ld bj ?_
 refine .vl (Y.ql U U) (.nil (.aA U (fun vG=>?_) (fun vG=>?_)))
 have IF:=(hf.cells nD om).2.2.2 om; unfold In at IF
 exact .gy U au (.val (Y.qp bO U U) ae (.val (Y.za bt U U U U) ae (.val (Y.qp bX U U) ae (.val (Y.za gk U U U U) ae (.val (Y.zh U U) ae (.val (Y.qs (m:=nD) dV U U bc (ao (d:=default) om)) ae (.val (Y.qp eo U U) ae (.val (Y.za bj U U U U) ae (.val (Y.qs (m:=((n.cells.getD nD default).out).toNat) a7 U U aG (ao (d:=0) aG)) ae (.val (Y.za bj U U U U) ae (.val (Y.qf U U) ae (.nil ⟨n.aa.getD (((n.cells.getD nD default).out).toNat) 0,by rw [if_pos ej],Le.mk (.c2 (.c (.cons (ak U bc) .nil))) .nil⟩))))))))))))
 refine .skip ⟨0,by rw [if_neg ej],Le.mk (.c2 (.c (.cons (ak U bc) .nil))) .nil⟩
 refine .seq ?_
 have hq:=hM.GI hf (i:=nD) om; rw [<- IL] at hq; have R5:=hq.2; have ZJ:rh <= 64:=(by rw [IL]; split; have:=Cp hf.lq (n.cells.getD nD default).out; unfold ab.wd at this; omega; omega)
 refine .mA 9 U au (.val (Y.qp rL U U) ae (.val (Y.za lU U U U U) ae (.val (Y.zh U U) ae (.val (Y.qs (m:=nD) dI U U bc (ao (d:=[]) om)) ae (.val (Y.za bt U U U U) ae (.val (Y.zh U U) ae (.val (Y.qp pE U U) ae (.val (Y.za uG U U U U) ae (.val (Y.qx (n:=m.cb.length) rN U (congrArg some (List.length_map ..))) ae (.nil (.aZ OR (tA (a:=(m.next.getD nD [])) (w:=rh) (n:=(m.cb.length:Int)) (aG)) U (.aj U U (.aj U U (.aj U U .nil))) ae U ?_)))))))))))
 refine .vl (Y.zn U) (.nil (.cond U (fun Jb=>?_) (fun Jb=>?_)))
 exact absurd hq (Pp Jb)
 replace Jb:mN (m.next.getD nD []) rh (m.cb.length:Int):=by simpa using Jb
 refine .skip (.region (.mv ?_))
 refine .vl (Y.qb U U aG) (.an ?_)
 refine .nil ⟨nD + 1,om,om,Le.mk (.c2 (.cons (ak U bc) .nil)) .nil⟩
 refine .exit (.sr (.an (.nil (.ret ?_))))
 exact .rb rfl (rfl)
open Go Go.AW Go.Proofs
theorem fP{k:Nat}:aw Try.prog 64 [.v (.int .u8 (k:Int))] [] [] (fun r o=>r = (vi (az k)) /\ o = []):=by
 refine aw.of Try.func64 U U U (n:=8) ae (aH U) (.sr (.an (.nil (.sr ?_))))
 refine .buildSlice (([1,2,4,7,8,13,33,64]:List Int).map ah) a7 dD U U U U U (aq (s:=1) (f:=ah) (fun _=>U)) U U U ae ?_
 refine .mv ?_
 refine .vl (Y.zt U U aG) (.sh (Sh.cG (d:=3) (([1,2,4,7,8,13,33,64]:List Int).map ah) U iJ (cC.map aI)) (.vl (Y.qs (m:=k % 8) a7 U U bc (ao (d:=0) aG)) (.ld bj ?_)))
 refine .an (.nil (.ret ?_))
 exact .ri rfl (rfl)
theorem cu{n:ab}{w:Int}{k:Nat}(hn:n.aa.length <= 1048576)(hk:k < 256):aw Try.prog 67 [.agg (ab.rG n),vi w,.v (.int .u8 (k:Int))] [] [] (fun r o=>r = (vi (aB n.aa w k)) /\ o = []):=by
 refine aw.of Try.func67 U U U (n:=38) ae (aH U) ?_
 have GJ:=we n.aa w
 refine .sr (.box 103 U U U U U ae ?_)
 refine .an (.nil (.sr ?_))
 refine .an ?_
 refine .sh (Sh.nil (d:=7) 107 1 U ae) (.nil (.seq (.sr (.an (.nil (.block ?_))))))
 refine .iD (fun (py:Nat) (rj:List Int)=>⟨[(1,vi w),(2,.v (.int .u8 (k:Int))),(3,.ptr 103 0 0 0),(7,.aL 107 1 0 rj.length),(8,vi py)],[(103,.cells (ab.rG n)),(107,.rows 1 (rj.map ah))]⟩) (fun py rj=>((py:Int) <= (n.aa.length:Int)) /\ (rj = ju n.aa w py)) (fun py rj=>((n.aa.length:Int) - (py:Int)).toNat) 0 ([]:List Int) (⟨mz,U⟩) (Le.mk (.c2 (.c (.cons (aN U aG) (.cons (ak U bc) .nil)))) (.c (.c .nil))) (fun py rj qR=>?_)
 obtain ⟨Fc,hl⟩:=qR
 refine .seq (.sr (.mv ?_))
 refine .fa bO ?_
 refine .ld bt ?_
 refine .vl (Y.qx (n:=n.aa.length) a7 U fV) (.vl (Y.zc U U) (.nil (.aA U (fun xy=>?_) (fun xy=>?_))))
 refine .skip (.iC (fun (sU:List Int)=>⟨[(1,vi w),(2,.v (.int .u8 (k:Int))),(3,.ptr 103 0 0 0),(7,.aL 107 1 0 sU.length),(8,vi py)],[(103,.cells (ab.rG n)),(107,.rows 1 (sU.map ah))]⟩) (fun sU=>sU = ju n.aa w (py + 1)) ?_ (fun sU yA=>?_))
 refine .block (.seq ?_)
 have Ml:=GJ py; rw [<- hl] at Ml
 refine .region (.fa bO ?_)
 refine .ld bt ?_
 refine .mv ?_
 refine .vl (Y.qs (m:=py) a7 U U bc (ao (d:=0) om)) (.ld bj ?_)
 refine .mv ?_
 refine .vl (Y.ql U U) (.nil (.aA U (fun pa=>?_) (fun pa=>?_)))
 refine .region (.mv ?_)
 refine .mv ?_
 refine .buildSlice (([(py:Int)]:List Int).map ah) a7 dD U U U U U (aq (s:=1) (f:=ah) (fun _=>U)) U U U ae ?_
 refine .cL ah (rj ++ ([(py:Int)]:List Int)) a7 dD U U U U (bg aG) (aR aG) (bz aG) aG aG ae ae ?_
 refine .an ?_
 refine .nil ⟨rj ++ ([(py:Int)]:List Int),by first | (rw [hl]; exact (pB ej).symm) | exact hl.trans (rH ej).symm,Le.mk (.c2 (.c (.cons (aN U om) (.c .nil)))) (.c (.c .nil))⟩
 refine .skip ⟨rj,by first | (rw [hl]; exact (pB ej).symm) | exact hl.trans (rH ej).symm,Le.mk (.c2 (.c (.cons (aN U om) (.c .nil)))) (.c (.c .nil))⟩
 refine .region (.mv ?_)
 refine .vl (Y.qb U U aG) (.an ?_)
 refine .nil (⟨py + 1,sU,⟨om,yA⟩,om,Le.mk (.c2 (.c (.cons (aN U om) (.cons (ak U bc) .nil)))) (.c (.c .nil))⟩)
 refine .exit (.seq (.seq ?_))
 have he:rj = ju n.aa w n.aa.length:=by rw [hl,show py = n.aa.length by omega]
 have Ml:=GJ py; rw [<- hl] at Ml
 refine .region (.mv ?_)
 refine .vl (Y.qx (n:=rj.length) a7 U U) (.vl (Y.ql U U) (.nil (.aA U (fun L2=>?_) (fun L2=>?_))))
 refine .sr (.an (.nil (.ret ?_)))
 exact .ri rfl (by unfold aB; rw [<- he,if_pos om])
 refine .skip (.seq ?_)
 have Vz:k % rj.length < rj.length:=Nat.mod_lt _ om
 refine .region (.mv ?_)
 refine .mv ?_
 refine .vl (Y.qk wT sD U zT) (.mv ?_)
 refine .vl (Y.qx (n:=rj.length) a7 U U) (.vl (Y.zt U U aG) (.vl (Y.qt (m:=k % rj.length) a7 U U bc om) (.vl (Y.za bj U (aM (d:=0) om) U U) (.an (.nil (.ret ?_))))))
 exact .ri rfl (by unfold aB; rw [<- he,if_neg om])
theorem kv{n:ab}{w:Int}{k:Nat}(hn:n.aa.length <= 1048576)(hk:k < 256):aw Try.prog 67 [.agg (ab.row n),vi w,.v (.int .u8 (k:Int))] [] [] (fun r o=>r = (vi (aB n.aa w k)) /\ o = []):=by
 refine aw.of Try.func67 U U U (n:=38) ae (aH U) ?_
 have GJ:=we n.aa w
 refine .sr (.box 103 U U U U U ae ?_)
 refine .an (.nil (.sr ?_))
 refine .an ?_
 refine .sh (Sh.nil (d:=7) 107 1 U ae) (.nil (.seq (.sr (.an (.nil (.block ?_))))))
 refine .iD (fun (py:Nat) (rj:List Int)=>⟨[(1,vi w),(2,.v (.int .u8 (k:Int))),(3,.ptr 103 0 0 0),(7,.aL 107 1 0 rj.length),(8,vi py)],[(103,.cells (ab.row n)),(107,.rows 1 (rj.map ah))]⟩) (fun py rj=>((py:Int) <= (n.aa.length:Int)) /\ (rj = ju n.aa w py)) (fun py rj=>((n.aa.length:Int) - (py:Int)).toNat) 0 ([]:List Int) (⟨mz,U⟩) (Le.mk (.c2 (.c (.cons (aN U aG) (.cons (ak U bc) .nil)))) (.c (.c .nil))) (fun py rj qR=>?_)
 obtain ⟨Fc,hl⟩:=qR
 refine .seq (.sr (.mv ?_))
 refine .fa bO ?_
 refine .ld bt ?_
 refine .vl (Y.qx (n:=n.aa.length) a7 U fV) (.vl (Y.zc U U) (.nil (.aA U (fun xy=>?_) (fun xy=>?_))))
 refine .skip (.iC (fun (sU:List Int)=>⟨[(1,vi w),(2,.v (.int .u8 (k:Int))),(3,.ptr 103 0 0 0),(7,.aL 107 1 0 sU.length),(8,vi py)],[(103,.cells (ab.row n)),(107,.rows 1 (sU.map ah))]⟩) (fun sU=>sU = ju n.aa w (py + 1)) ?_ (fun sU yA=>?_))
 refine .block (.seq ?_)
 have Ml:=GJ py; rw [<- hl] at Ml
 refine .region (.fa bO ?_)
 refine .ld bt ?_
 refine .mv ?_
 refine .vl (Y.qs (m:=py) a7 U U bc (ao (d:=0) om)) (.ld bj ?_)
 refine .mv ?_
 refine .vl (Y.ql U U) (.nil (.aA U (fun pa=>?_) (fun pa=>?_)))
 refine .region (.mv ?_)
 refine .mv ?_
 refine .buildSlice (([(py:Int)]:List Int).map ah) a7 dD U U U U U (aq (s:=1) (f:=ah) (fun _=>U)) U U U ae ?_
 refine .cL ah (rj ++ ([(py:Int)]:List Int)) a7 dD U U U U (bg aG) (aR aG) (bz aG) aG aG ae ae ?_
 refine .an ?_
 refine .nil ⟨rj ++ ([(py:Int)]:List Int),by first | (rw [hl]; exact (pB ej).symm) | exact hl.trans (rH ej).symm,Le.mk (.c2 (.c (.cons (aN U om) (.c .nil)))) (.c (.c .nil))⟩
 refine .skip ⟨rj,by first | (rw [hl]; exact (pB ej).symm) | exact hl.trans (rH ej).symm,Le.mk (.c2 (.c (.cons (aN U om) (.c .nil)))) (.c (.c .nil))⟩
 refine .region (.mv ?_)
 refine .vl (Y.qb U U aG) (.an ?_)
 refine .nil (⟨py + 1,sU,⟨om,yA⟩,om,Le.mk (.c2 (.c (.cons (aN U om) (.cons (ak U bc) .nil)))) (.c (.c .nil))⟩)
 refine .exit (.seq (.seq ?_))
 have he:rj = ju n.aa w n.aa.length:=by rw [hl,show py = n.aa.length by omega]
 have Ml:=GJ py; rw [<- hl] at Ml
 refine .region (.mv ?_)
 refine .vl (Y.qx (n:=rj.length) a7 U U) (.vl (Y.ql U U) (.nil (.aA U (fun L2=>?_) (fun L2=>?_))))
 refine .sr (.an (.nil (.ret ?_)))
 exact .ri rfl (by unfold aB; rw [<- he,if_pos om])
 refine .skip (.seq ?_)
 have Vz:k % rj.length < rj.length:=Nat.mod_lt _ om
 refine .region (.mv ?_)
 refine .mv ?_
 refine .vl (Y.qk wT sD U zT) (.mv ?_)
 refine .vl (Y.qx (n:=rj.length) a7 U U) (.vl (Y.zt U U aG) (.vl (Y.qt (m:=k % rj.length) a7 U U bc om) (.vl (Y.za bj U (aM (d:=0) om) U U) (.an (.nil (.ret ?_))))))
 exact .ri rfl (by unfold aB; rw [<- he,if_neg om])
end Go.Proofs.Ytlimckldnjmabaa
