/- The walk through formed. -/
import Derived.Test.YtlimckldnjmabaaSynx0
import Derived.Test.YtlimckldnjmabaaSynx1
import Derived.Test.YtlimckldnjmabaaAWx2
set_option linter.unusedSimpArgs false
set_option linter.unusedVariables false
set_option linter.unusedSectionVars false
set_option maxRecDepth 4000
set_option maxHeartbeats 8000000
namespace Go.Proofs.Ytlimckldnjmabaa
open Go Go.AW Go.Proofs
theorem g6{i:Int}{n:ae}:aw Try.prog 156 [vi i,.fp (ae.row n) 0] [] [] (fun r o=>r = .v (.bool (decide (In i n.aa.length))) /\ o = []):=by
 refine aw.of Try.func156 U U U (n:=13) ab (aH U) (.sr (.an (.nil (.sr ?_))))
 refine .mv ?_
 refine .vl (Y.qp U U) (.mv ?_)
 refine .a8 (d:=6) U (fun c6=>?_) (fun c6=>?_)
 refine .gw 6 (Y.zf U U) (.gw 6 (Y.qo bB U U) (.gw 6 (Y.qz bn U U U U) (.gw 6 (Y.qw (n:=n.aa.length) a7 U dY) (.gw 6 (Y.zb U U) (.pk ?_)))))
 refine .an (.nil (.ret ?_))
 exact .rb rfl (dd (by (simp only [In]) <;> (first | omega | grind)))
 refine .gz 6 (.gz 6 (.gz 6 (.gz 6 (.gz 6 (.pk ?_)))))
 refine .an (.nil (.ret ?_))
 exact .rb rfl (df (by (simp only [In]) <;> (first | omega | grind)))
theorem wT{i:Int}{n:ae}:aw Try.prog 158 [vi i,.fp ([.jQ (.func 156) [] [.fp (ae.row n) 0]]) 0] [] [] (fun r o=>r = .v (.bool (!decide (In i n.aa.length))) /\ o = []):=by
 refine aw.of Try.func158 U U U (n:=8) ab (aH U) (.sr (.an (.nil (.sr ?_))))
 refine .ld Aa ?_
 refine .mv ?_
 refine .nC U ux (g6 (i:=i)) U (.ai U U (.ai U U .nil)) ab U (.vl (Y.zl U) (.an (.nil (.ret ?_))))
 exact .rb rfl (rfl)
theorem wU{i:Int}{n:ae}:aw Try.prog 159 [vi i,.fp ([.jQ (.func 156) [] [.fp (ae.row n) 0]]) 0] [] [] (fun r o=>r = .v (.bool (!decide (In i n.aa.length))) /\ o = []):=by
 refine aw.of Try.func159 U U U (n:=8) ab (aH U) (.sr (.an (.nil (.sr ?_))))
 refine .ld Aa ?_
 refine .mv ?_
 refine .nC U ux (g6 (i:=i)) U (.ai U U (.ai U U .nil)) ab U (.vl (Y.zl U) (.an (.nil (.ret ?_))))
 exact .rb rfl (rfl)
theorem yu{n:ae}(hs:n.Small)(Mn:n.aa.length + n.ins.length <= 17592186044416):aw Try.prog 108 [.agg (ae.row n)] [] [] (fun r o=>r = .v (.bool (decide (bx n))) /\ o = []):=by
 refine aw.of Try.func108 U U U (n:=234) ab (aH U) ?_
 have Pk:=hs.name; have QM:=hs.aa; have Lb:=hs.cells; have Iu:=hs.ins; have Iv:=hs.aD; have J5:=hs.streams; have QN:=hs.bD; have XJ:=hs.data; have VD:=hs.cH
 have Pq:([n.aa,n.ins]:List (List Int)).flatten = n.aa ++ n.ins:=by simp
 have vh:(([n.aa,n.ins]:List (List Int)).flatten).length = n.aa.length + n.ins.length:=by simp
 refine .sr (.box 101 U U U U U ab ?_)
 refine .an ?_
 refine .nil (.seq (.sr (.fa EE ?_)))
 refine .ld Md ?_
 refine .aR EG (qI (s:=n.name) (by first | assumption | omega)) U (.ai U U .nil) ab U (.vl (Y.zl U) (.mv ?_))
 refine .eR (d:=17) U (fun J8=>?_) (fun J8=>?_)
 refine .gz 17 (.gz 17 (.gz 17 (.gz 17 (.pk ?_))))
 refine .mv ?_
 refine .gz 23 (.gz 23 (.gz 23 (.gz 23 (.pk ?_))))
 refine .mv ?_
 refine .gz 29 (.gz 29 (.gz 29 (.gz 29 (.pk ?_))))
 refine .mv ?_
 refine .gz 35 (.gz 35 (.gz 35 (.gz 35 (.pk ?_))))
 refine .mv ?_
 refine .gz 41 (.gz 41 (.gz 41 (.gz 41 (.gz 41 (.gz 41 (.gz 41 (.pk ?_)))))))
 refine .mv ?_
 refine .gz 50 (.gz 50 (.gz 50 (.gz 50 (.gz 50 (.gz 50 (.gz 50 (.pk ?_)))))))
 refine .nil (.aQ U (.sr (.an (.nil (.ret ?_)))))
 exact .rb rfl (df (fun h=>by have h1:=h.name; have h2:=h.dm; have h3:=h.cO; have h4:=h.gB; have h5:=h.bZ; have h6:=h.dy; have h7:=h.gm; first | omega | contradiction))
 refine .gw 17 (Y.qo bS U U) (.gw 17 (Y.qz fU U U U U) (.gw 17 (Y.qw (n:=n.cells.length) dU U dY) (.gw 17 (Y.qq U U) (.pk ?_))))
 refine .mv ?_
 refine .a8 (d:=23) U (fun oK=>?_) (fun oK=>?_)
 refine .gz 23 (.gz 23 (.gz 23 (.gz 23 (.pk ?_))))
 refine .mv ?_
 refine .gz 29 (.gz 29 (.gz 29 (.gz 29 (.pk ?_))))
 refine .mv ?_
 refine .gz 35 (.gz 35 (.gz 35 (.gz 35 (.pk ?_))))
 refine .mv ?_
 refine .gz 41 (.gz 41 (.gz 41 (.gz 41 (.gz 41 (.gz 41 (.gz 41 (.pk ?_)))))))
 refine .mv ?_
 refine .gz 50 (.gz 50 (.gz 50 (.gz 50 (.gz 50 (.gz 50 (.gz 50 (.pk ?_)))))))
 refine .nil (.aQ U (.sr (.an (.nil (.ret ?_)))))
 exact .rb rfl (df (fun h=>by have h1:=h.name; have h2:=h.dm; have h3:=h.cO; have h4:=h.gB; have h5:=h.bZ; have h6:=h.dy; have h7:=h.gm; first | omega | contradiction))
 refine .gw 23 (Y.qo bB U U) (.gw 23 (Y.qz bn U U U U) (.gw 23 (Y.qw (n:=n.aa.length) a7 U dY) (.gw 23 (Y.qq U U) (.pk ?_))))
 refine .mv ?_
 refine .a8 (d:=29) U (fun FK=>?_) (fun FK=>?_)
 refine .gz 29 (.gz 29 (.gz 29 (.gz 29 (.pk ?_))))
 refine .mv ?_
 refine .gz 35 (.gz 35 (.gz 35 (.gz 35 (.pk ?_))))
 refine .mv ?_
 refine .gz 41 (.gz 41 (.gz 41 (.gz 41 (.gz 41 (.gz 41 (.gz 41 (.pk ?_)))))))
 refine .mv ?_
 refine .gz 50 (.gz 50 (.gz 50 (.gz 50 (.gz 50 (.gz 50 (.gz 50 (.pk ?_)))))))
 refine .nil (.aQ U (.sr (.an (.nil (.ret ?_)))))
 exact .rb rfl (df (fun h=>by have h1:=h.name; have h2:=h.dm; have h3:=h.cO; have h4:=h.gB; have h5:=h.bZ; have h6:=h.dy; have h7:=h.gm; first | omega | contradiction))
 refine .gw 29 (Y.qo eK U U) (.gw 29 (Y.qz ln U U U U) (.gw 29 (Y.qw (n:=n.aD.length) jE U dY) (.gw 29 (Y.qq U U) (.pk ?_))))
 refine .mv ?_
 refine .a8 (d:=35) U (fun uz=>?_) (fun uz=>?_)
 refine .gz 35 (.gz 35 (.gz 35 (.gz 35 (.pk ?_))))
 refine .mv ?_
 refine .gz 41 (.gz 41 (.gz 41 (.gz 41 (.gz 41 (.gz 41 (.gz 41 (.pk ?_)))))))
 refine .mv ?_
 refine .gz 50 (.gz 50 (.gz 50 (.gz 50 (.gz 50 (.gz 50 (.gz 50 (.pk ?_)))))))
 refine .nil (.aQ U (.sr (.an (.nil (.ret ?_)))))
 exact .rb rfl (df (fun h=>by have h1:=h.name; have h2:=h.dm; have h3:=h.cO; have h4:=h.gB; have h5:=h.bZ; have h6:=h.dy; have h7:=h.gm; first | omega | contradiction))
 refine .gw 35 (Y.qo cK U U) (.gw 35 (Y.qz gy U U U U) (.gw 35 (Y.qw (n:=n.streams.length) fu U dY) (.gw 35 (Y.qq U U) (.pk ?_))))
 refine .mv ?_
 refine .a8 (d:=41) U (fun At=>?_) (fun At=>?_)
 refine .gz 41 (.gz 41 (.gz 41 (.gz 41 (.gz 41 (.gz 41 (.gz 41 (.pk ?_)))))))
 refine .mv ?_
 refine .gz 50 (.gz 50 (.gz 50 (.gz 50 (.gz 50 (.gz 50 (.gz 50 (.pk ?_)))))))
 refine .nil (.aQ U (.sr (.an (.nil (.ret ?_)))))
 exact .rb rfl (df (fun h=>by have h1:=h.name; have h2:=h.dm; have h3:=h.cO; have h4:=h.gB; have h5:=h.bZ; have h6:=h.dy; have h7:=h.gm; first | omega | contradiction))
 refine .gw 41 (Y.qo lL U U) (.gw 41 (Y.qz bn U U U U) (.gw 41 (Y.qw (n:=n.bD.length) a7 U dY) (.gw 41 (Y.qo cK U U) (.gw 41 (Y.qz gy U U U U) (.gw 41 (Y.qw (n:=n.streams.length) fu U dY) (.gw 41 (Y.zj U U) (.pk ?_)))))))
 refine .mv ?_
 refine .a8 (d:=50) U (fun XK=>?_) (fun XK=>?_)
 refine .gz 50 (.gz 50 (.gz 50 (.gz 50 (.gz 50 (.gz 50 (.gz 50 (.pk ?_)))))))
 refine .nil (.aQ U (.sr (.an (.nil (.ret ?_)))))
 exact .rb rfl (df (fun h=>by have h1:=h.name; have h2:=h.dm; have h3:=h.cO; have h4:=h.gB; have h5:=h.bZ; have h6:=h.dy; have h7:=h.gm; first | omega | contradiction))
 refine .gw 50 (Y.qo kb U U) (.gw 50 (Y.qz bn U U U U) (.gw 50 (Y.qw (n:=n.data.length) a7 U dY) (.gw 50 (Y.qo cK U U) (.gw 50 (Y.qz gy U U U U) (.gw 50 (Y.qw (n:=n.streams.length) fu U dY) (.gw 50 (Y.zj U U) (.pk ?_)))))))
 refine .nil (.aB U (fun QK=>?_) (fun QK=>?_))
 refine .sr (.an (.nil (.ret ?_)))
 exact .rb rfl (df (fun h=>by have h1:=h.name; have h2:=h.dm; have h3:=h.cO; have h4:=h.gB; have h5:=h.bZ; have h6:=h.dy; have h7:=h.gm; first | omega | contradiction))
 refine .skip (.seq (.sr (.fa bB ?_)))
 refine .ld bn ?_
 refine .fa jf ?_
 refine .ld bn ?_
 refine .buildSlice (([n.aa,n.ins]:List (List Int)).map ef) ee pJ U U U U U (aq (s:=1) (f:=ef) (fun _=>U)) U U U ab ?_
 refine .sh (Sh.cN (d:=63) (([n.aa,n.ins]:List (List Int)).map ef) U iX (cM.map nD)) (.aR Oa (yt (ls:=([n.aa,n.ins]:List (List Int))) (by simp) (by simp; omega)) U (.ai U U .nil) ab U (.vl (Y.qw (n:=(([n.aa,n.ins]:List (List Int)).flatten).length) a7 U dY) (.mv ?_)))
 refine .nil (.block (.sh (Sh.cN (d:=64) ((([n.aa,n.ins]:List (List Int)).flatten).map ah) U iX (cM.map aI)) ?_))
 refine .gS (fun (oQ:Nat)=>⟨[(1,.ptr 101 0 0 0),(64,.fz 1 ((([n.aa,n.ins]:List (List Int)).flatten).map ah)),(65,vi (((([n.aa,n.ins]:List (List Int)).flatten).length:Nat):Int)),(66,vi oQ)],[(101,.cells (ae.row n))]⟩) (fun oQ=>((oQ:Int) <= (((([n.aa,n.ins]:List (List Int)).flatten).length:Nat):Int)) /\ (∀ j,j < oQ -> dk (([n.aa,n.ins]:List (List Int)).flatten.getD j 0))) (fun oQ=>((((([n.aa,n.ins]:List (List Int)).flatten).length:Nat):Int) - (oQ:Int)).toNat) 0 (⟨om,fun j hj=>by omega⟩) (Le.mk (.c2 (.c (.cons (ak U aY) .nil))) (.c .nil)) (fun oQ Au=>?_)
 obtain ⟨FM,hw⟩:=Au
 refine .sr (.vl (Y.zb U U) (.nil (.seq (.aB U (fun Lc=>?_) (fun Lc=>?_)))))
 refine .skip (.seq (.block (.sr (.vl (Y.qr (m:=oQ) a7 U U aY (ao (d:=0) om)) (.ld bg ?_)))))
 refine .an (.nil (.sr ?_))
 refine .mv ?_
 refine .aR EH (su (w:=((([n.aa,n.ins]:List (List Int)).flatten).getD oQ 0))) U (.ai U U .nil) ab U (.vl (Y.zl U) (.nil (.dX U (fun SS=>?_) (fun SS=>?_))))
 refine .sr (.an (.nil (.ret ?_)))
 exact .rb rfl (df (fun h=>by have h1:=h.wide oQ (by rw [List.length_append]; omega); rw [<- Pq] at h1; contradiction))
 refine .skip (.region (.vl (Y.qb U U om) (.mv ?_)))
 refine .nil (⟨oQ + 1,⟨om,dp hw bO⟩,om,Le.mk (.c2 (.c (.cons (ak U aY) .nil))) (.c .nil)⟩)
 refine .exit (.seq (.sr (.fa eK ?_)))
 refine .ld ln ?_
 refine .vl (Y.qw (n:=n.aD.length) jE U dY) (.mv ?_)
 refine .nil (.block (.gS (fun (gJ:Nat)=>⟨[(1,.ptr 101 0 0 0),(75,.fz 5 (n.aD.map eQ.row)),(76,vi n.aD.length),(77,vi gJ)],[(101,.cells (ae.row n))]⟩) (fun gJ=>((gJ:Int) <= (n.aD.length:Int)) /\ (∀ j,j < gJ -> iP (n.aD.getD j default))) (fun gJ=>((n.aD.length:Int) - (gJ:Int)).toNat) 0 (⟨om,fun j hj=>by omega⟩) (Le.mk (.c2 (.c (.cons (ak U aY) .nil))) (.c .nil)) (fun gJ Av=>?_)))
 obtain ⟨Ld,hm⟩:=Av
 refine .sr (.vl (Y.zb U U) (.nil (.seq (.aB U (fun FN=>?_) (fun FN=>?_)))))
 refine .skip (.seq (.block (.sr (.vl (Y.qr (m:=gJ) jE U U aY (ao (d:=default) om)) (.vl (Y.za Jh U U (aH U) U U) (.alloc 106 mX U U ab (.aj Ji U U U U U U (aH U) U ?_)))))))
 refine .nil (.sr ?_)
 have XL:=hs.mT _ (eC (l:=n.aD) (i:=gJ) (d:=default) om)
 refine .fa Bx ?_
 refine .ld Md ?_
 refine .aR EG (qI (s:=((n.aD.getD gJ default).name)) (by first | assumption | omega)) U (.ai U U .nil) ab U (.vl (Y.zl U) (.mv ?_))
 refine .eR (d:=85) U (fun XM=>?_) (fun XM=>?_)
 refine .gz 85 (.gz 85 (.gz 85 (.gz 85 (.pk ?_))))
 refine .mv ?_
 refine .gz 91 (.gz 91 (.gz 91 (.pk ?_)))
 refine .mv ?_
 refine .gz 96 (.gz 96 (.gz 96 (.pk ?_)))
 refine .mv ?_
 refine .gz 101 (.gz 101 (.gz 101 (.pk ?_)))
 refine .mv ?_
 refine .gz 106 (.gz 106 (.gz 106 (.pk ?_)))
 refine .nil (.aQ U (.sr (.an (.nil (.ret ?_)))))
 exact .rb rfl (df (fun h=>by have h1:=h.aD gJ om; unfold iP at h1; obtain ⟨a1,a2,a3,a4,a5,a6⟩:=h1; first | contradiction | omega))
 refine .gw 85 (Y.qo mc U U) (.gw 85 (Y.qz bg U U U U) (.aC (d:=85) U ab U ?_))
 refine .aR EH (su (w:=((n.aD.getD gJ default).width))) U (.ai U U .nil) ab U (.gw 85 (Y.zl U) (.pk ?_))
 refine .mv ?_
 refine .eR (d:=91) U (fun XN=>?_) (fun XN=>?_)
 refine .gz 91 (.gz 91 (.gz 91 (.pk ?_)))
 refine .mv ?_
 refine .gz 96 (.gz 96 (.gz 96 (.pk ?_)))
 refine .mv ?_
 refine .gz 101 (.gz 101 (.gz 101 (.pk ?_)))
 refine .mv ?_
 refine .gz 106 (.gz 106 (.gz 106 (.pk ?_)))
 refine .nil (.aQ U (.sr (.an (.nil (.ret ?_)))))
 exact .rb rfl (df (fun h=>by have h1:=h.aD gJ om; unfold iP at h1; obtain ⟨a1,a2,a3,a4,a5,a6⟩:=h1; first | contradiction | omega))
 refine .gw 91 (Y.qo tB U U) (.gw 91 (Y.qz bg U U U U) (.gw 91 (Y.zb U U) (.pk ?_)))
 refine .mv ?_
 refine .a8 (d:=96) U (fun Pr=>?_) (fun Pr=>?_)
 refine .gz 96 (.gz 96 (.gz 96 (.pk ?_)))
 refine .mv ?_
 refine .gz 101 (.gz 101 (.gz 101 (.pk ?_)))
 refine .mv ?_
 refine .gz 106 (.gz 106 (.gz 106 (.pk ?_)))
 refine .nil (.aQ U (.sr (.an (.nil (.ret ?_)))))
 exact .rb rfl (df (fun h=>by have h1:=h.aD gJ om; unfold iP at h1; obtain ⟨a1,a2,a3,a4,a5,a6⟩:=h1; first | contradiction | omega))
 refine .gw 96 (Y.qo tB U U) (.gw 96 (Y.qz bg U U U U) (.gw 96 (Y.qq U U) (.pk ?_)))
 refine .mv ?_
 refine .a8 (d:=101) U (fun SU=>?_) (fun SU=>?_)
 refine .gz 101 (.gz 101 (.gz 101 (.pk ?_)))
 refine .mv ?_
 refine .gz 106 (.gz 106 (.gz 106 (.pk ?_)))
 refine .nil (.aQ U (.sr (.an (.nil (.ret ?_)))))
 exact .rb rfl (df (fun h=>by have h1:=h.aD gJ om; unfold iP at h1; obtain ⟨a1,a2,a3,a4,a5,a6⟩:=h1; first | contradiction | omega))
 refine .gw 101 (Y.qo By U U) (.gw 101 (Y.qz bg U U U U) (.gw 101 (Y.zj U U) (.pk ?_)))
 refine .mv ?_
 refine .a8 (d:=106) U (fun FI=>?_) (fun FI=>?_)
 refine .gz 106 (.gz 106 (.gz 106 (.pk ?_)))
 refine .nil (.aQ U (.sr (.an (.nil (.ret ?_)))))
 exact .rb rfl (df (fun h=>by have h1:=h.aD gJ om; unfold iP at h1; obtain ⟨a1,a2,a3,a4,a5,a6⟩:=h1; first | contradiction | omega))
 refine .gw 106 (Y.qo Bz U U) (.gw 106 (Y.qz bg U U U U) (.gw 106 (Y.zj U U) (.pk ?_)))
 refine .nil (.aB U (fun Aw=>?_) (fun Aw=>?_))
 refine .sr (.an (.nil (.ret ?_)))
 exact .rb rfl (df (fun h=>by have h1:=h.aD gJ om; unfold iP at h1; obtain ⟨a1,a2,a3,a4,a5,a6⟩:=h1; first | contradiction | omega))
 refine .skip (.region (.vl (Y.qb U U om) (.mv ?_)))
 refine .nil ?_
 exact ⟨gJ + 1,⟨om,dp hm (by unfold iP; refine ⟨?_,?_,?_,?_,?_,?_⟩ <;> first | assumption | omega)⟩,om,Le.mk (.c2 (.c (.cons (ak U aY) .nil))) (.c .nil)⟩
 refine .exit (.sr (.sh (Sh.iY 101 U U) (.vl (Y.zc U U U U) (.alloc 107 Sk U U ab (.aj Si U U U U U U (aH U) U ?_)))))
 refine .nil (.seq (.seq (.sh (Sh.iY 107 U U) (.region (.fa cK ?_)))))
 refine .ld gy ?_
 refine .vl (Y.qw (n:=n.streams.length) fu U dY) (.mv ?_)
 refine .nil (.block (.gS (fun (bu:Nat)=>⟨[(1,.fp (ae.row n) 0),(7,.fp ([.jQ (.func 156) [] [.fp (ae.row n) 0]]) 0),(114,.fz 3 (n.streams.map bI.row)),(115,vi n.streams.length),(116,vi bu)],[]⟩) (fun bu=>((bu:Int) <= (n.streams.length:Int)) /\ (∀ j,j < bu -> gk n j)) (fun bu=>((n.streams.length:Int) - (bu:Int)).toNat) 0 (⟨om,fun j hj=>by omega⟩) (Le.mk (.c4 (.cons (ak U aY) .nil)) .nil) (fun bu KZ=>?_)))
 obtain ⟨SM,xw⟩:=KZ
 refine .sr (.vl (Y.zb U U) (.nil (.seq (.aB U (fun na=>?_) (fun na=>?_)))))
 refine .skip ?_
 refine .Bk (fun (uK:Bool) (uL:Bool) (uM:Bool) (uN:Bool)=>⟨[(1,.fp (ae.row n) 0),(7,.fp ([.jQ (.func 156) [] [.fp (ae.row n) 0]]) 0),(114,.fz 3 (n.streams.map bI.row)),(115,vi n.streams.length),(116,vi bu),(126,.ptr 109 0 0 1),(127,vi ((n.streams.getD bu default).width)),(128,.v (.bool (decide (dk ((n.streams.getD bu default).width))))),(129,.v (.bool (!decide (dk ((n.streams.getD bu default).width))))),(132,.jQ (.func 156) [] [.fp (ae.row n) 0]),(133,.fp (ae.row n) 6),(134,.fz 1 (n.bD.map ah)),(135,vi bu),(136,.fp (ah (n.bD.getD bu 0)) 0),(137,vi (n.bD.getD bu 0)),(138,.v (.bool (decide (In (n.bD.getD bu 0) n.aa.length)))),(139,.v (.bool (!decide (In (n.bD.getD bu 0) n.aa.length)))),(142,.ptr 109 0 0 2),(143,.v (.bool ((n.streams.getD bu default).out))),(144,.v (.bool uK)),(153,.v (.bool uL)),(156,.ptr 109 0 0 2),(157,.v (.bool ((n.streams.getD bu default).out))),(158,.v (.bool (!((n.streams.getD bu default).out)))),(159,.v (.bool uM)),(166,.v (.bool uN))],[(109,.cells [.v (.string ((n.streams.getD bu default).name)),vi ((n.streams.getD bu default).width),.v (.bool ((n.streams.getD bu default).out))])]⟩) (fun uK uL uM uN=>gk n bu) ?_ (fun uK uL uM uN FO=>?_)
 refine .block (.sr ?_)
 have XO:=hs.mU _ (eC (l:=n.streams) (i:=bu) (d:=default) om)
 refine .mv ?_
 refine .vl (Y.qr (m:=bu) fu U U aY (ao (d:=default) om)) (.vl (Y.za EK U U (aH U) U U) (.alloc 109 mj U U ab ?_))
 refine .an ?_
 refine .aj EL U U U U U U (aH U) U (.nil (.seq (.de U (.br (n:=45) [0,1] [2,3,4,5,6,7,8,9,10,11,12,13,14,15,16,17,18,19,20,21,22,23,24,25,26,27,28,29,30,31,32,33,34,35,36,37,38,39,40,41,42,43,44,45,46] 2 U au (.cn 0 U (Y.qo BA U U) (.cn 1 U (Y.qz Md U U U U) (.nil (.one 2 U au (.aR EG (qI (s:=((n.streams.getD bu default).name)) (by first | assumption | omega)) U (.ai U U .nil) ab U ?_)))))))))
 refine .nil ⟨U,(.br (n:=40) [3,4,5,6] [7,8,9,10,11,12,13,14,15,16,17,18,19,20,21,22,23,24,25,26,27,28,29,30,31,32,33,34,35,36,37,38,39,40,41,42,43,44,45,46] 7 U au (.cn 3 U (Y.zl U) (.cn 4 U (Y.zf U U) (.split (d:=125) U (fun FP=>?_) (fun FP=>?_)))))⟩
 replace FP:¬ (lH ((n.streams.getD bu default).name)):=by simpa using FP
 refine .sk 5 U U U U (.sk 6 U U U U (.nil (.bw 7 U au U ab ab U U (.bw 8 U au U ab ab U U (.br (n:=30) [9,10,11,12,13,14,15,16] [17,18,19,20,21,22,23,24,25,26,27,28,29,30,31,32,33,34,35,36,37,38,39,40,41,42,43,44,45,46] 17 U au ?_)))))
 refine .cn 9 U (Y.zm U U U) (.cn 10 U (Y.zf U U) (.sk 11 U U U U (.sk 12 U U U U (.sk 13 U U U U (.sk 14 U U U U (.sk 15 U U U U (.sk 16 U U U U (.nil (.bw 17 U au U ab ab U U (.bw 18 U au U ab ab U U (.br (n:=17) [19,20,21,22,23,24,25,26,27,28,29] [30,31,32,33,34,35,36,37,38,39,40,41,42,43,44,45,46] 30 U au ?_)))))))))))
 refine .cn 19 U (Y.zm U U U) (.cn 20 U (Y.zf U U) (.sk 21 U U U U (.sk 22 U U U U (.sk 23 U U U U (.sk 24 U U U U (.sk 25 U U U U (.sk 26 U U U U (.sk 27 U U U U (.sk 28 U U U U (.sk 29 U U U U (.nil (.bw 30 U au U ab ab U U (.bw 31 U au U ab ab U U (.bw 32 U au U ab ab U U ?_))))))))))))))
 refine .br (n:=0) [33,34,35,36,37,38,39,40,41,42,43,44,45,46] [] 0 U au (.cn 33 U (Y.zm U U U) (.cn 34 U (Y.zf U U) (.sk 35 U U U U (.sk 36 U U U U (.sk 37 U U U U (.sk 38 U U U U (.sk 39 U U U U (.sk 40 U U U U (.sk 41 U U U U (.sk 42 U U U U (.sk 43 U U U U (.sk 44 U U U U (.sk 45 U U U U (.cn 46 U (Y.zm U U U) (.nil (.done au (.aQ U ?_)))))))))))))))))
 refine .sr (.an (.nil (.ret ?_)))
 exact .rb rfl (df (fun h=>by have h1:=h.strs bu om; unfold gk at h1; obtain ⟨a1,a2,a3,a4,a5⟩:=h1; first | contradiction | grind))
 replace FP:lH ((n.streams.getD bu default).name):=by simpa using FP
 refine .rn 5 U U U (Y.qo me U U) (.rn 6 U U U (Y.qz bg U U U U) (.nil (.one 7 U au (.aC (d:=125) U ab U (.aR EH (su (w:=((n.streams.getD bu default).width))) U (.ai U U .nil) ab U ?_)))))
 refine .nil ⟨U,(.br (n:=30) [8,9,10,11,12,13,14,15,16] [17,18,19,20,21,22,23,24,25,26,27,28,29,30,31,32,33,34,35,36,37,38,39,40,41,42,43,44,45,46] 17 U au (.rn 8 U U U (Y.zl U) (.cn 9 U (Y.zm U U U) (.cn 10 U (Y.zf U U) (.split (d:=131) U (fun oR=>?_) (fun oR=>?_))))))⟩
 replace oR:¬ (dk ((n.streams.getD bu default).width)):=by simpa using oR
 refine .sk 11 U U U U (.sk 12 U U U U (.sk 13 U U U U (.sk 14 U U U U (.sk 15 U U U U (.sk 16 U U U U (.nil (.bw 17 U au U ab ab U U (.bw 18 U au U ab ab U U ?_))))))))
 refine .br (n:=17) [19,20,21,22,23,24,25,26,27,28,29] [30,31,32,33,34,35,36,37,38,39,40,41,42,43,44,45,46] 30 U au (.cn 19 U (Y.zm U U U) (.cn 20 U (Y.zf U U) (.sk 21 U U U U (.sk 22 U U U U (.sk 23 U U U U (.sk 24 U U U U (.sk 25 U U U U (.sk 26 U U U U (.sk 27 U U U U (.sk 28 U U U U (.sk 29 U U U U (.nil (.bw 30 U au U ab ab U U (.bw 31 U au U ab ab U U ?_))))))))))))))
 refine .bw 32 U au U ab ab U U (.br (n:=0) [33,34,35,36,37,38,39,40,41,42,43,44,45,46] [] 0 U au (.cn 33 U (Y.zm U U U) (.cn 34 U (Y.zf U U) (.sk 35 U U U U (.sk 36 U U U U (.sk 37 U U U U (.sk 38 U U U U (.sk 39 U U U U (.sk 40 U U U U (.sk 41 U U U U (.sk 42 U U U U (.sk 43 U U U U (.sk 44 U U U U (.sk 45 U U U U (.cn 46 U (Y.zm U U U) (.nil (.done au (.aQ U (.sr (.an (.nil (.ret ?_))))))))))))))))))))))
 exact .rb rfl (df (fun h=>by have h1:=h.strs bu om; unfold gk at h1; obtain ⟨a1,a2,a3,a4,a5⟩:=h1; first | contradiction | grind))
 replace oR:dk ((n.streams.getD bu default).width):=by simpa using oR
 refine .rn 11 U U U (Y.qz Aa U U U U) (.rn 12 U U U (Y.qo lL U U) (.rn 13 U U U (Y.qz bn U U U U) ?_))
 refine .rn 14 U U U (Y.zf U U) (.rn 15 U U U (Y.qr (m:=bu) a7 U U aY (ao (d:=0) om)) ?_)
 refine .rn 16 U U U (Y.qz bg U U U U) (.nil (.one 17 U au (.aC (d:=131) U ab U (.nC U ux (g6 (i:=(n.bD.getD bu 0))) U (.ai U U (.ai U U .nil)) ab U ?_))))
 refine .nil ⟨U,(.br (n:=17) [18,19,20,21,22,23,24,25,26,27,28,29] [30,31,32,33,34,35,36,37,38,39,40,41,42,43,44,45,46] 30 U au (.rn 18 U U U (Y.zl U) (.cn 19 U (Y.zm U U U) (.cn 20 U (Y.zf U U) (.split (d:=141) U (fun uO=>?_) (fun uO=>?_))))))⟩
 replace uO:¬ (In (n.bD.getD bu 0) n.aa.length):=by simpa using uO
 refine .sk 21 U U U U (.sk 22 U U U U (.sk 23 U U U U (.sk 24 U U U U (.sk 25 U U U U (.sk 26 U U U U (.sk 27 U U U U (.sk 28 U U U U (.sk 29 U U U U (.nil (.bw 30 U au U ab ab U U (.bw 31 U au U ab ab U U ?_)))))))))))
 refine .bw 32 U au U ab ab U U (.br (n:=0) [33,34,35,36,37,38,39,40,41,42,43,44,45,46] [] 0 U au (.cn 33 U (Y.zm U U U) (.cn 34 U (Y.zf U U) (.sk 35 U U U U (.sk 36 U U U U (.sk 37 U U U U (.sk 38 U U U U (.sk 39 U U U U (.sk 40 U U U U (.sk 41 U U U U (.sk 42 U U U U (.sk 43 U U U U (.sk 44 U U U U (.sk 45 U U U U (.cn 46 U (Y.zm U U U) (.nil (.done au (.aQ U (.sr (.an (.nil (.ret ?_))))))))))))))))))))))
 exact .rb rfl (df (fun h=>by have h1:=h.strs bu om; unfold gk at h1; obtain ⟨a1,a2,a3,a4,a5⟩:=h1; first | contradiction | grind))
 replace uO:In (n.bD.getD bu 0) n.aa.length:=by simpa using uO
 refine .rn 21 U U U (Y.qo gx U U) (.rn 22 U U U (Y.qz vT U U U U) (.rn 23 U U U (Y.zf U U) ?_))
 refine .split (d:=144) U (fun wR=>?_) (fun wR=>?_)
 refine .rn 24 U U U (Y.qz Aa U U U U) (.rn 25 U U U (Y.qo kb U U) (.rn 26 U U U (Y.qz bn U U U U) ?_))
 refine .rn 27 U U U (Y.zf U U) (.rn 28 U U U (Y.qr (m:=bu) a7 U U aY (ao (d:=0) om)) ?_)
 refine .rn 29 U U U (Y.qz bg U U U U) (.nil (.one 30 U au (.aC (d:=144) U ab U (.nC U ux (g6 (i:=(n.data.getD bu 0))) U (.ai U U (.ai U U .nil)) ab U ?_))))
 refine .nil ⟨U,(.br (n:=0) [31,32,33,34,35,36,37,38,39,40,41,42,43,44,45,46] [] 0 U au (.rn 31 U U U (Y.zl U) (.rn 32 U U U (Y.zm U U U) ?_)))⟩
 refine .cn 33 U (Y.zm U U U) (.cn 34 U (Y.zf U U) (.split (d:=155) U (fun FQ=>?_) (fun FQ=>?_)))
 replace FQ:¬ (In (n.data.getD bu 0) n.aa.length):=by simpa using FQ
 refine .sk 35 U U U U (.sk 36 U U U U (.sk 37 U U U U (.sk 38 U U U U (.sk 39 U U U U (.sk 40 U U U U (.sk 41 U U U U (.sk 42 U U U U (.sk 43 U U U U (.sk 44 U U U U (.sk 45 U U U U (.cn 46 U (Y.zm U U U) (.nil (.done au (.aQ U ?_))))))))))))))
 refine .sr (.an (.nil (.ret ?_)))
 exact .rb rfl (df (fun h=>by have h1:=h.strs bu om; unfold gk at h1; obtain ⟨a1,a2,a3,a4,a5⟩:=h1; first | contradiction | grind))
 replace FQ:In (n.data.getD bu 0) n.aa.length:=by simpa using FQ
 refine .rn 35 U U U (Y.qo gx U U) (.rn 36 U U U (Y.qz vT U U U U) (.rn 37 U U U (Y.zl U) ?_))
 refine .rn 38 U U U (Y.zf U U) ?_
 refine .split (d:=159) U (fun kl=>?_) (fun kl=>?_)
 replace kl:((n.streams.getD bu default).out) = false:=by simpa using kl
 refine .rn 39 U U U (Y.qo kb U U) (.rn 40 U U U (Y.qz bn U U U U) (.rn 41 U U U (Y.zf U U) ?_))
 refine .rn 42 U U U (Y.qr (m:=bu) a7 U U aY (ao (d:=0) om)) ?_
 refine .rn 43 U U U (Y.qz bg U U U U) (.rn 44 U U U (Y.zj U U) (.rn 45 U U U (Y.zm U U U) ?_))
 refine .cn 46 U (Y.zm U U U) (.nil (.done au (.aB U (fun FT=>?_) (fun FT=>?_))))
 refine .sr (.an (.nil (.ret ?_)))
 exact .rb rfl (df (fun h=>by have h1:=h.strs bu om; unfold gk at h1; obtain ⟨a1,a2,a3,a4,a5⟩:=h1; first | contradiction | grind))
 refine .skip ⟨true,(!decide (In (n.data.getD bu 0) n.aa.length)),true,decide ((n.data.getD bu 0) ≠ (-1)),by unfold gk; grind,Le.mk (.c8 (.c8 (.c2 (.c (.cons (aT U j1) (.cons (aT U j1) (.c2 (.c (.cons (aT U j1) (.cons (aT U j1) .nil)))))))))) (.c .nil)⟩
 replace kl:((n.streams.getD bu default).out) = true:=by simpa using kl
 exact .sk 39 U U U U (.sk 40 U U U U (.sk 41 U U U U (.sk 42 U U U U (.sk 43 U U U U (.sk 44 U U U U (.rn 45 U U U (Y.zm U U U) (.cn 46 U (Y.zm U U U) (.nil (.done au (.cu U (.skip ⟨true,(!decide (In (n.data.getD bu 0) n.aa.length)),false,false,by unfold gk; grind,Le.mk (.c8 (.c8 (.c2 (.c (.cons (aT U j1) (.cons (aT U j1) (.c2 (.c (.cons (aT U j1) (.cons (aT U j1) .nil)))))))))) (.c .nil)⟩)))))))))))
 refine .sk 24 U U U U (.sk 25 U U U U (.sk 26 U U U U (.sk 27 U U U U (.sk 28 U U U U (.sk 29 U U U U (.nil (.bw 30 U au U ab ab U U (.bw 31 U au U ab ab U U ?_))))))))
 refine .br (n:=0) [32,33,34,35,36,37,38,39,40,41,42,43,44,45,46] [] 0 U au (.rn 32 U U U (Y.zm U U U) (.cn 33 U (Y.zm U U U) (.cn 34 U (Y.zf U U) (.rn 35 U U U (Y.qo gx U U) (.rn 36 U U U (Y.qz vT U U U U) ?_)))))
 refine .rn 37 U U U (Y.zl U) (.rn 38 U U U (Y.zf U U) ?_)
 refine .split (d:=159) U (fun kl=>?_) (fun kl=>?_)
 replace kl:((n.streams.getD bu default).out) = false:=by simpa using kl
 refine .rn 39 U U U (Y.qo kb U U) (.rn 40 U U U (Y.qz bn U U U U) (.rn 41 U U U (Y.zf U U) ?_))
 refine .rn 42 U U U (Y.qr (m:=bu) a7 U U aY (ao (d:=0) om)) ?_
 refine .rn 43 U U U (Y.qz bg U U U U) (.rn 44 U U U (Y.zj U U) (.rn 45 U U U (Y.zm U U U) ?_))
 refine .cn 46 U (Y.zm U U U) (.nil (.done au (.aB U (fun FT=>?_) (fun FT=>?_))))
 refine .sr (.an (.nil (.ret ?_)))
 exact .rb rfl (df (fun h=>by have h1:=h.strs bu om; unfold gk at h1; obtain ⟨a1,a2,a3,a4,a5⟩:=h1; first | contradiction | grind))
 refine .skip ⟨false,false,true,decide ((n.data.getD bu 0) ≠ (-1)),by unfold gk; grind,Le.mk (.c8 (.c8 (.c2 (.c (.cons (aT U j1) (.cons (aT U j1) (.c2 (.c (.cons (aT U j1) (.cons (aT U j1) .nil)))))))))) (.c .nil)⟩
 replace kl:((n.streams.getD bu default).out) = true:=by simpa using kl
 exact .sk 39 U U U U (.sk 40 U U U U (.sk 41 U U U U (.sk 42 U U U U (.sk 43 U U U U (.sk 44 U U U U (.rn 45 U U U (Y.zm U U U) (.cn 46 U (Y.zm U U U) (.nil (.done au (.cu U (.skip ⟨false,false,false,false,by unfold gk; grind,Le.mk (.c8 (.c8 (.c2 (.c (.cons (aT U j1) (.cons (aT U j1) (.c2 (.c (.cons (aT U j1) (.cons (aT U j1) .nil)))))))))) (.c .nil)⟩)))))))))))
 refine .region (.vl (Y.qb U U om) (.mv ?_))
 refine .nil (⟨bu + 1,⟨om,dp xw FO⟩,om,Le.mk (.c4 (.cons (ak U aY) .nil)) .nil⟩)
 refine .exit (.seq (.sr (.ld Aa ?_)))
 refine .fa qF ?_
 refine .ld bg ?_
 refine .nC U ux (g6 (i:=n.freeze)) U (.ai U U (.ai U U .nil)) ab U (.vl (Y.zl U) (.mv ?_))
 refine .eR (d:=174) U (fun SV=>?_) (fun SV=>?_)
 refine .gz 174 (.gz 174 (.gz 174 (.gz 174 (.gz 174 (.pk ?_)))))
 refine .mv ?_
 refine .gz 181 (.gz 181 (.gz 181 (.gz 181 (.pk ?_))))
 refine .nil (.aQ U (.sr (.an (.nil (.ret ?_)))))
 exact .rb rfl (df (fun h=>by have h1:=h.freeze; have h2:=h.done; contradiction))
 refine .gw 174 (Y.qz Aa U U U U) (.gw 174 (Y.qo sq U U) (.gw 174 (Y.qz bg U U U U) (.aC (d:=174) U ab U (.nC U ux (g6 (i:=n.done)) U (.ai U U (.ai U U .nil)) ab U (.gw 174 (Y.zl U) (.pk ?_))))))
 refine .mv ?_
 refine .eR (d:=181) U (fun SW=>?_) (fun SW=>?_)
 refine .gz 181 (.gz 181 (.gz 181 (.gz 181 (.pk ?_))))
 refine .nil (.aQ U (.sr (.an (.nil (.ret ?_)))))
 exact .rb rfl (df (fun h=>by have h1:=h.freeze; have h2:=h.done; contradiction))
 refine .gw 181 (Y.qo mh U U) (.gw 181 (Y.qz bn U U U U) (.gw 181 (Y.zc U U U U) (.aC (d:=181) U ab U ?_)))
 refine .aR Jg (kL (l:=n.cH) (p:=fun z=>!decide (In z n.aa.length)) (om) Ob (fun z _=>wT)) U (.ai U U (.ai U U .nil)) ab U ?_
 refine .pk ?_
 refine .nil (.cond U (fun Lf=>?_) (fun Lf=>?_))
 refine .sr (.an (.nil (.ret ?_)))
 exact .rb rfl (df (fun h=>absurd h.cH (pq.1 bO)))
 refine .skip (.sr (.fa bB ?_))
 refine .ld bn ?_
 refine .vl (Y.qw (n:=n.aa.length) a7 U dY) (.makeSlice (n:=n.aa.length) ss Sj U U U U om om ab ?_)
 refine .bX U ab (.sh (Sh.dD (d:=10) (n:=n.aa.length) 110 ((List.replicate n.aa.length false).map jO) U iX (aW (by simp)) ab) (.nil (.seq (.sr (.fa bS ?_)))))
 refine .ld fU ?_
 refine .vl (Y.qw (n:=n.cells.length) dU U dY) (.mv ?_)
 refine .nil (.block (.gT (fun (cB:Nat) (e9:List Bool)=>⟨[(1,.fp (ae.row n) 0),(7,.fp ([.jQ (.func 156) [] [.fp (ae.row n) 0]]) 0),(10,.aN 110 1 0 n.aa.length),(192,.fz 6 (n.cells.map Cell.row)),(193,vi n.cells.length),(194,vi cB)],[(110,.rows 1 (e9.map jO))]⟩) (fun cB e9=>(e9.length = n.aa.length) /\ ((cB:Int) <= (n.cells.length:Int)) /\ (xh n cB e9) /\ (∀ j,j < cB -> jC n (n.cells.getD j default))) (fun cB e9=>((n.cells.length:Int) - (cB:Int)).toNat) 0 (List.replicate n.aa.length false) (⟨ik,ik,xh.init n,fun j hj=>by omega⟩) (Le.mk (.c4 (.c (.cons (ak U aY) .nil))) (.c .nil)) (fun cB e9 Lg=>?_)))
 obtain ⟨J9,SX,hd,hc⟩:=Lg
 refine .sr (.vl (Y.zb U U) (.nil (.seq (.aB U (fun SY=>?_) (fun SY=>?_)))))
 refine .skip ?_
 refine .iu (fun (im:List Bool)=>⟨[(1,.fp (ae.row n) 0),(7,.fp ([.jQ (.func 156) [] [.fp (ae.row n) 0]]) 0),(10,.aN 110 1 0 n.aa.length),(192,.fz 6 (n.cells.map Cell.row)),(193,vi n.cells.length),(194,vi cB),(203,.agg [.v (.string n.name),.fz 1 (n.aa.map ah),.fz 6 (n.cells.map Cell.row),.fz 1 (n.ins.map ah),.fz 5 (n.aD.map eQ.row),.fz 3 (n.streams.map bI.row),.fz 1 (n.bD.map ah),.fz 1 (n.data.map ah),vi n.freeze,vi n.done,.fz 1 (n.cH.map ah)]),(204,.agg [vi ((n.cells.getD cB default).kind),vi ((n.cells.getD cB default).op),vi ((n.cells.getD cB default).out),.fz 1 (((n.cells.getD cB default).args).map ah),.v (.int .u64 (((n.cells.getD cB default).num:Nat):Int)),vi ((n.cells.getD cB default).mem)]),(205,.v (.bool (decide (Shaped n (n.cells.getD cB default))))),(206,.v (.bool (!decide (Shaped n (n.cells.getD cB default)))))],[(110,.rows 1 (im.map jO))]⟩) (fun im=>(im.length = n.aa.length) /\ (jC n (n.cells.getD cB default) /\ xh n (cB + 1) im)) ?_ (fun im Ps=>?_)
 refine .block (.sr (.vl (Y.qr (m:=cB) dU U U aY (ao (d:=default) om)) (.vl (Y.za fq U U (aH U) U U) (.alloc 112 ez U U ab (.aj gi U U U U U U (aH U) U ?_)))))
 refine .nil (.seq (.sr ?_))
 have VE:=hs.args (n.cells.getD cB default) (eC om)
 refine .fa bT ?_
 refine .ld bn ?_
 refine .vl (Y.zc U U U U) (.aR Jg (kL (l:=((n.cells.getD cB default).args)) (p:=fun z=>!decide (In z n.aa.length)) (om) Oc (fun z _=>wU)) U (.ai U U (.ai U U .nil)) ab U ?_)
 refine .mv ?_
 refine .split (d:=202) U (fun SZ=>?_) (fun SZ=>?_)
 refine .gz 202 (.gz 202 (.gz 202 (.gz 202 (.pk ?_))))
 refine .nil (.aQ U (.sr (.an (.nil (.ret ?_)))))
 exact .rb rfl (df (fun h=>by have h1:=h.cells cB om; obtain ⟨a1,a2,a3,a4⟩:=h1; first | contradiction | exact absurd a1 (pq.1 bO) | (have:=a3 bO; contradiction) | (have:=a4 bO; contradiction)))
 refine .gw 202 (Y.za fF U U (aH U) U U) (.gw 202 (Y.za fq U U (aH U) U U) (.aC (d:=202) U ab U ?_))
 refine .aR Od (yr (n:=n) (c:=(n.cells.getD cB default)) hs (by first | assumption | omega)) U (.ai U U (.ai U U .nil)) ab U (.gw 202 (Y.zl U) (.pk ?_))
 refine .nil (.dX U (fun Ta=>?_) (fun Ta=>?_))
 refine .sr (.an (.nil (.ret ?_)))
 exact .rb rfl (df (fun h=>by have h1:=h.cells cB om; obtain ⟨a1,a2,a3,a4⟩:=h1; first | contradiction | exact absurd a1 (pq.1 bO) | (have:=a3 bO; contradiction) | (have:=a4 bO; contradiction)))
 refine .skip (.seq (.sr (.fa ck ?_)))
 refine .ld bg ?_
 refine .vl (Y.ql U U) (.nil (.aB U (fun Tb=>?_) (fun Tb=>?_)))
 refine .seq (.sr (.fa eg ?_))
 refine .ld bg ?_
 refine .vl (Y.zj U U) (.nil (.aB U (fun Tc=>?_) (fun Tc=>?_)))
 refine .sr (.an (.nil (.ret ?_)))
 exact .rb rfl (df (fun h=>by have h1:=h.cells cB om; obtain ⟨a1,a2,a3,a4⟩:=h1; first | contradiction | exact absurd a1 (pq.1 bO) | (have:=a3 bO; contradiction) | (have:=a4 bO; contradiction)))
 exact .skip (.exit (⟨e9,⟨om,⟨⟨m9 bO,bO,fun _=>by omega,fun h=>absurd bO h⟩,hd.skip om bO⟩⟩,Le.mk (.c8 (.c (.c .nil))) (.c .nil)⟩))
 refine .skip (.seq (.sr (.ld Aa ?_)))
 refine .fa eg ?_
 refine .ld bg ?_
 refine .nC U ux (g6 (i:=((n.cells.getD cB default).out))) U (.ai U U (.ai U U .nil)) ab U (.vl (Y.zl U) (.mv ?_))
 refine .eR (d:=219) U (fun Td=>?_) (fun Td=>?_)
 refine .gz 219 (.gz 219 (.gz 219 (.gz 219 (.gz 219 (.pk ?_)))))
 refine .nil (.aQ U (.sr (.an (.nil (.ret ?_)))))
 exact .rb rfl (df (fun h=>by have h1:=h.cells cB om; obtain ⟨a1,a2,a3,a4⟩:=h1; first | contradiction | exact absurd a1 (pq.1 bO) | (have:=a3 bO; contradiction) | (have:=a4 bO; contradiction)))
 refine .gw 219 (Y.zf U U) (.gw 219 (Y.qo eg U U) (.gw 219 (Y.qz bg U U U U) (.gw 219 (Y.qs (m:=((n.cells.getD cB default).out).toNat) ss U U ik ik) (.gw 219 (Y.qz vT U (aO (d:=false) ik) U U) (.pk ?_)))))
 refine .nil (.cond U (fun Te=>?_) (fun Te=>?_))
 refine .sr (.an (.nil (.ret ?_)))
 exact .rb rfl (df (fun h=>xh.dup hd om bO bO bO h))
 refine .skip (.region (.mv ?_))
 refine .fa eg ?_
 refine .ld bg ?_
 refine .vl (Y.qs (m:=((n.cells.getD cB default).out).toNat) ss U U ik ik) (.iB ((e9.set (((n.cells.getD cB default).out).toNat) true).map jO) QA U U U U U U U (aO (d:=false) ik) (aH U) (eO U) (.nil (⟨e9.set (((n.cells.getD cB default).out).toNat) true,⟨ik,⟨⟨m9 bO,bO,fun h=>absurd h bO,fun _=>by assumption⟩,hd.step om bO bO J9 bO⟩⟩,Le.mk (.c8 (.c (.c .nil))) (.c .nil)⟩)))
 obtain ⟨Mo,Iw⟩:=Ps
 refine .region (.vl (Y.qb U U om) (.mv ?_))
 refine .nil (⟨cB + 1,im,⟨om,om,Iw.2,dp hc Iw.1⟩,om,Le.mk (.c4 (.c (.cons (ak U aY) .nil))) (.c .nil)⟩)
 refine .exit (.sr (.mv ?_))
 refine .iC [110] Oe (rL (l:=e9) (b:=false) (om)) U (.cE U U (bz om) (b5 om) (.ai U U .nil)) (jA U (bj ug)) ab U trivial (.vl (Y.zl U) (.an (.nil (.ret ?_))))
 exact .rb rfl (db ((xh.all (d:=e9) (by rw [show n.cells.length = cB by omega]; exact hd) J9).trans ⟨fun h=>⟨bO,om,om,om,om,om,om,fun j hj=>by have:=hw j (by rw [List.length_append] at hj; omega); rw [Pq] at this; exact this,fun j hj=>hm j om,fun j hj=>xw j om,bO,bO,m9 bO,fun j hj=>hc j om,h⟩,fun h=>h.jY⟩))
open Go Go.AW Go.Proofs
theorem CZ{n:ae}{c:Cell}(hs:n.Small)(hc:c.args.length <= 17592186043904)(hn:c.num < 18446744073709551616)(s7:Shaped n c)(hw:vJ n c):aw Try.prog 164 [.agg (ae.row n),.agg (Cell.row c)] [] [] (fun r o=>r = .v (.bool (decide (Fits n c))) /\ o = []):=by
 refine aw.of Try.func164 U U U (n:=239) ab (aH U) ?_
 have Iu:=hs.ins; have Iv:=hs.aD; have J5:=hs.streams; have ho:=hw.out; have Pk:=hs.aa
 refine .sr (.box 102 U U U U U ab (.box 103 U U U U U ab ?_))
 refine .an (.nil (.sr ?_))
 refine .an (.nil ?_)
 refine .iu (fun (jH:Int)=>⟨[(2,.ptr 102 0 0 0),(3,.ptr 103 0 0 0),(5,vi jH)],[(102,.cells (ae.row n)),(103,.cells (Cell.row c))]⟩) (fun jH=>jH = n.ow c) ?_ (fun jH xk=>?_)
 refine .sr (.fa eg ?_)
 refine .ld bg ?_
 refine .vl (Y.qp U U) (.nil (.aB U (fun yV=>?_) (fun yV=>?_)))
 refine .region (.fa bB ?_)
 refine .ld bn ?_
 refine .fa eg ?_
 refine .ld bg ?_
 refine .vl (Y.qr (m:=(c.out).toNat) a7 U U om (ao (d:=0) om)) (.ld bg ?_)
 refine .an ?_
 refine .nil ⟨n.aa.getD ((c.out).toNat) 0,by unfold ae.ow ae.wd; rw [if_pos yV],Le.mk (.c2 (.cons (ak U aY) .nil)) (.c (.c .nil))⟩
 refine .skip ⟨0,by unfold ae.ow; rw [if_neg yV],Le.mk (.c2 (.cons (ak U aY) .nil)) (.c (.c .nil))⟩
 refine .sr (.fa bT ?_)
 refine .ld bn ?_
 refine .vl (Y.qw (n:=c.args.length) a7 U dY) (.makeSlice (n:=c.args.length) a7 dG U U U U om om ab ?_)
 refine .bX U ab (.sh (Sh.dD (d:=6) (n:=c.args.length) 106 ((List.replicate c.args.length 0).map ah) U iX (aW (by simp)) ab) (.nil (.seq (.sr (.fa bT ?_)))))
 refine .ld bn ?_
 refine .vl (Y.qw (n:=c.args.length) a7 U dY) (.mv ?_)
 refine .nil (.block (.gT (fun (la:Nat) (mH:List Int)=>⟨[(2,.ptr 102 0 0 0),(3,.ptr 103 0 0 0),(5,vi jH),(6,.aN 106 1 0 c.args.length),(25,.fz 1 (c.args.map ah)),(26,vi c.args.length),(27,vi la)],[(102,.cells (ae.row n)),(103,.cells (Cell.row c)),(106,.rows 1 (mH.map ah))]⟩) (fun la mH=>(mH.length = c.args.length) /\ ((la:Int) <= (c.args.length:Int)) /\ (∀ j,j < la -> mH.getD j 0 = n.av c j)) (fun la mH=>((c.args.length:Int) - (la:Int)).toNat) 0 (List.replicate c.args.length 0) (⟨pP,pP,fun j hj=>by omega⟩) (Le.mk (.c4 (.c2 (.cons (ak U aY) .nil))) (.c2 (.c .nil))) (fun la mH Pt=>?_)))
 obtain ⟨FU,XP,ha⟩:=Pt
 refine .sr (.vl (Y.zb U U) (.nil (.seq (.aB U (fun xW=>?_) (fun xW=>?_)))))
 refine .skip (.seq (.block (.sr (.mv ?_))))
 refine .vl (Y.qr (m:=la) a7 U U aY (ao (d:=0) om)) (.ld bg ?_)
 refine .an ?_
 refine .an (.nil (.region ?_))
 have VA:=hw.arg (k:=la) om
 refine .mv ?_
 refine .mv ?_
 refine .fa bB ?_
 refine .ld bn ?_
 refine .mv ?_
 refine .vl (Y.qr (m:=(c.args.getD la 0).toNat) a7 U U om (ao (d:=0) om)) (.ld bg ?_)
 refine .vl (Y.qs (m:=la) a7 U U aY om) (.iB ((mH.set la (n.aa.getD ((c.args.getD la 0).toNat) 0)).map ah) dT U U U U U U U (aO (d:=0) om) (aH U) (eO U) ?_)
 refine .nil (.region (.vl (Y.qb U U aJ) (.mv ?_)))
 refine .nil (⟨la + 1,mH.set la (n.aa.getD ((c.args.getD la 0).toNat) 0),⟨pP,pP,CA ha U om⟩,om,Le.mk (.c4 (.c2 (.cons (ak U aY) .nil))) (.c2 (.c .nil))⟩)
 refine .exit (.seq (.seq ?_))
 have SL:0 < c.args.length -> mH.getD 0 0 = n.av c 0:=fun h=>ha 0 om
 have KX:1 < c.args.length -> mH.getD 1 0 = n.av c 1:=fun h=>ha 1 om
 have VB:2 < c.args.length -> mH.getD 2 0 = n.av c 2:=fun h=>ha 2 om
 refine .region (.fa ck ?_)
 refine .ld bg ?_
 refine .nil (.block (.sr (.vl (Y.ql U U) (.an (.nil ?_)))))
 refine .aB U (fun SQ=>?_) (fun SQ=>?_)
 refine .seq (.de U (.blind 0 U au (ax.move U U) ab ?_))
 refine .blind 1 U au (ax.fieldAddr dE U U) ab (.blind 4 U au (ax.fieldAddr dE U U) ab ?_)
 refine .two 2 5 U U au ?_ ?_
 refine .ld fV ?_
 refine .nil ⟨U,(.two 3 5 U U au ?_ ?_)⟩
 refine .aR uw (ke (w:=jH) (x:=c.num) (om)) U (.ai U U (.ai U U .nil)) ab U ?_
 refine .nil ⟨U,(.br (n:=0) [5,6,7] [] 0 U au (.cn 5 U (Y.qz fV U U U U) (.cn 6 U (Y.ql U U) (.cn 7 U (Y.qf U U) (.nil (.done au (.ret (.rb U (dd yP)))))))))⟩
 refine .ld fV ?_
 refine .nil ⟨U,(.one 3 U au (.aR uw (ke (w:=jH) (x:=c.num) (om)) U (.ai U U (.ai U U .nil)) ab U ?_))⟩
 exact .nil ⟨U,(.br (n:=0) [6,7] [] 0 U au (.cn 6 U (Y.ql U U) (.cn 7 U (Y.qf U U) (.nil (.done au (.ret (.rb rfl (dd yP))))))))⟩
 refine .ld fV ?_
 refine .nil ⟨U,(.br (n:=3) [2] [3,6,7] 3 U au (.cn 2 U (Y.qz fV U U U U) (.nil (.one 3 U au (.aR uw (ke (w:=jH) (x:=c.num) (om)) U (.ai U U (.ai U U .nil)) ab U ?_)))))⟩
 exact .nil ⟨U,(.br (n:=0) [6,7] [] 0 U au (.cn 6 U (Y.ql U U) (.cn 7 U (Y.qf U U) (.nil (.done au (.ret (.rb rfl (dd yP))))))))⟩
 refine .sr (.vl (Y.ql U U) (.an (.nil ?_)))
 refine .aB U (fun DE=>?_) (fun DE=>?_)
 have hk:=s7.k2 DE
 refine .seq (.sr (.fa cL ?_))
 refine .ld bg ?_
 refine .nil (.block (.sr (.vl (Y.ql U U) (.an (.nil ?_)))))
 refine .aB U (fun KY=>?_) (fun KY=>?_)
 refine .sr (.mv ?_)
 refine .vl (Y.qs (m:=0) a7 U U aY aJ) (.vl (Y.qz bg U (aO (d:=0) om) U U) (.vl (Y.ql U U) (.mv ?_)))
 refine .a8 (d:=62) U (fun Lh=>?_) (fun Lh=>?_)
 refine .gw 62 (Y.zf U U) (.gw 62 (Y.qs (m:=1) a7 U U aY om) (.gw 62 (Y.qz bg U (aO (d:=0) om) U U) (.gw 62 (Y.zf U U) (.gw 62 (Y.ql U U) (.pk ?_)))))
 refine .mv ?_
 refine .a8 (d:=69) U (fun Tf=>?_) (fun Tf=>?_)
 refine .gw 69 (Y.zf U U) (.gw 69 (Y.qs (m:=2) a7 U U aY om) (.gw 69 (Y.qz bg U (aO (d:=0) om) U U) (.gw 69 (Y.zf U U) (.gw 69 (Y.ql U U) (.pk ?_)))))
 refine .an (.nil (.ret ?_))
 exact .rb rfl (dd (by (simp only [Fits,bR,eY,<- xk,DE,Int.reduceEq,Bool.not_eq_true,false_and,true_and,and_true,and_false,or_false,false_or,ne_eq]) <;> omega))
 refine .gz 69 (.gz 69 (.gz 69 (.gz 69 (.gz 69 (.pk ?_)))))
 refine .an (.nil (.ret ?_))
 exact .rb rfl (df (by (simp only [Fits,bR,eY,<- xk,DE,Int.reduceEq,Bool.not_eq_true,false_and,true_and,and_true,and_false,or_false,false_or,ne_eq]) <;> omega))
 refine .gz 62 (.gz 62 (.gz 62 (.gz 62 (.gz 62 (.pk ?_)))))
 refine .mv ?_
 refine .gz 69 (.gz 69 (.gz 69 (.gz 69 (.gz 69 (.pk ?_)))))
 refine .an (.nil (.ret ?_))
 exact .rb rfl (df (by (simp only [Fits,bR,eY,<- xk,DE,Int.reduceEq,Bool.not_eq_true,false_and,true_and,and_true,and_false,or_false,false_or,ne_eq]) <;> omega))
 refine .seq (.sr (.vl (Y.ql U U) (.an (.nil ?_))))
 refine .bt U (fun FH=>?_) (fun FH=>?_)
 refine .skip (.aQ U (.sr (.mv ?_)))
 refine .vl (Y.qs (m:=0) a7 U U aY aJ) (.vl (Y.qz bg U (aO (d:=0) om) U U) (.mv ?_))
 refine .vl (Y.qy U U) (.an (.nil (.ret ?_)))
 exact .rb rfl (dd (by (simp only [Fits,bR,eY,<- xk,DE,Int.reduceEq,Bool.not_eq_true,false_and,true_and,and_true,and_false,or_false,false_or,ne_eq]) <;> omega))
 refine .region (.vl (Y.ql U U) (.an (.nil ?_)))
 refine .bt U (fun FH=>?_) (fun FH=>?_)
 refine .sr (.mv ?_)
 refine .vl (Y.qs (m:=0) a7 U U aY aJ) (.vl (Y.qz bg U (aO (d:=0) om) U U) (.mv ?_))
 refine .vl (Y.qy U U) (.an (.nil (.ret ?_)))
 exact .rb rfl (dd (by (simp only [Fits,bR,eY,<- xk,DE,Int.reduceEq,Bool.not_eq_true,false_and,true_and,and_true,and_false,or_false,false_or,ne_eq]) <;> omega))
 refine .sr (.vl (Y.ql U U) (.an (.nil ?_)))
 refine .aB U (fun SN=>?_) (fun SN=>?_)
 refine .sr (.mv ?_)
 refine .vl (Y.qs (m:=0) a7 U U aY aJ) (.vl (Y.qz bg U (aO (d:=0) om) U U) (.mv ?_))
 refine .vl (Y.qp U U) (.an (.nil (.ret ?_)))
 exact .rb rfl (dd (by (simp only [Fits,bR,eY,<- xk,DE,Int.reduceEq,Bool.not_eq_true,false_and,true_and,and_true,and_false,or_false,false_or,ne_eq]) <;> omega))
 refine .skip (.seq (.sr (.fa cL ?_)))
 refine .ld bg ?_
 refine .aR Ot (u0 (w:=c.op)) U (.ai U U .nil) ab U (.nil (.aB U (fun yW=>?_) (fun yW=>?_)))
 unfold eY at yW
 refine .seq (.j9 U au (.val (Y.zf U U) ab (.val (Y.ql U U) ab (.val (Y.zf U U) ab (.a8 (d:=96) U (fun Pr=>?_) (fun Pr=>?_))))))
 refine .aC (d:=96) U ab U (.val (Y.zf U U) ab (.aC (d:=96) U ab U ?_))
 refine .val (Y.qs (m:=0) a7 U U aY om) ab (.aC (d:=96) U ab U (.val (Y.qz bg U (aO (d:=0) om) U U) ab (.aC (d:=96) U ab U (.val (Y.zf U U) ab (.aC (d:=96) U ab U ?_)))))
 refine .val (Y.qs (m:=1) a7 U U aY om) ab (.aC (d:=96) U ab U (.val (Y.qz bg U (aO (d:=0) om) U U) ab (.aC (d:=96) U ab U (.val (Y.ql U U) ab (.val (Y.zm U U U) ab (.val (Y.qf U U) ab (.nil (.ret ?_))))))))
 exact .rb rfl (dd (by (simp only [Fits,bR,eY,<- xk,DE,Int.reduceEq,Bool.not_eq_true,false_and,true_and,and_true,and_false,or_false,false_or,ne_eq]) <;> omega))
 refine .ay (d:=96) U ab ab U U (.ay (d:=96) U ab ab U U (.ay (d:=96) U ab ab U U ?_))
 refine .ay (d:=96) U ab ab U U (.ay (d:=96) U ab ab U U (.ay (d:=96) U ab ab U U ?_))
 refine .ay (d:=96) U ab ab U U (.val (Y.zm U U U) ab (.val (Y.qf U U) ab (.nil (.ret ?_))))
 exact .rb rfl (df (by (simp only [Fits,bR,eY,<- xk,DE,Int.reduceEq,Bool.not_eq_true,false_and,true_and,and_true,and_false,or_false,false_or,ne_eq]) <;> omega))
 unfold eY at yW
 refine .skip (.sr (.mv ?_))
 refine .vl (Y.qs (m:=0) a7 U U aY aJ) (.vl (Y.qz bg U (aO (d:=0) om) U U) (.mv ?_))
 refine .vl (Y.ql U U) (.mv ?_)
 refine .a8 (d:=110) U (fun Aw=>?_) (fun Aw=>?_)
 refine .gw 110 (Y.zf U U) (.gw 110 (Y.qs (m:=1) a7 U U aY om) (.gw 110 (Y.qz bg U (aO (d:=0) om) U U) (.gw 110 (Y.zf U U) (.gw 110 (Y.ql U U) (.pk ?_)))))
 refine .an (.nil (.ret ?_))
 exact .rb rfl (dd (by (simp only [Fits,bR,eY,<- xk,DE,Int.reduceEq,Bool.not_eq_true,false_and,true_and,and_true,and_false,or_false,false_or,ne_eq]) <;> omega))
 refine .gz 110 (.gz 110 (.gz 110 (.gz 110 (.gz 110 (.pk ?_)))))
 refine .an (.nil (.ret ?_))
 exact .rb rfl (df (by (simp only [Fits,bR,eY,<- xk,DE,Int.reduceEq,Bool.not_eq_true,false_and,true_and,and_true,and_false,or_false,false_or,ne_eq]) <;> omega))
 refine .sr (.vl (Y.ql U U) (.an (.nil ?_)))
 refine .aB U (fun na=>?_) (fun na=>?_)
 have hk:=s7.k3 na
 refine .seq (.sr (.mv ?_))
 refine .vl (Y.qw (n:=c.args.length) a7 U U) (.mv ?_)
 refine .nil (.block (.gS (fun (cj:Nat)=>⟨[(5,vi jH),(119,.aN 106 1 0 c.args.length),(120,vi c.args.length),(121,vi cj)],[(106,.rows 1 (mH.map ah))]⟩) (fun cj=>((cj:Int) <= (c.args.length:Int)) /\ (∀ k,k < cj -> fo n c k)) (fun cj=>((c.args.length:Int) - (cj:Int)).toNat) 0 (⟨om,fun k hk=>by omega⟩) (Le.mk (.c2 (.c (.cons (ak U aY) .nil))) (.c .nil)) (fun cj FV=>?_)))
 obtain ⟨Pu,hm⟩:=FV
 refine .sr (.vl (Y.zb U U) (.nil (.seq (.aB U (fun Li=>?_) (fun Li=>?_)))))
 refine .skip ?_
 refine .kY (fun (lP:Bool) (lQ:Bool)=>⟨[(5,vi jH),(119,.aN 106 1 0 c.args.length),(120,vi c.args.length),(121,vi cj),(134,vi cj),(135,vi ((cj:Int) % 2)),(136,.v (.bool (decide (((cj:Int) % 2) = 1)))),(137,.v (.bool lP)),(141,.v (.bool lQ))],[(106,.rows 1 (mH.map ah))]⟩) (fun lP lQ=>((((cj:Int) % 2) = 0) /\ (¬ ((mH.getD cj 0) ≠ 1)) /\ (((cj:Int) % 2) = 1) /\ (¬ ((mH.getD cj 0) ≠ jH)) /\ (lP = true) /\ (lQ = (decide ((mH.getD cj 0) ≠ jH)))) \/ ((((cj:Int) % 2) = 0) /\ (¬ ((mH.getD cj 0) ≠ 1)) /\ (¬ (((cj:Int) % 2) = 1)) /\ (lP = false) /\ (lQ = false)) \/ ((¬ (((cj:Int) % 2) = 0)) /\ (((cj:Int) % 2) = 1) /\ (¬ ((mH.getD cj 0) ≠ jH)) /\ (lP = true) /\ (lQ = (decide ((mH.getD cj 0) ≠ jH)))) \/ ((¬ (((cj:Int) % 2) = 0)) /\ (¬ (((cj:Int) % 2) = 1)) /\ (lP = false) /\ (lQ = false))) ?_ (fun lP lQ XQ=>?_)
 refine .block (.sr (.mv ?_))
 refine .vl (Y.qs (m:=cj) a7 U U aY om) (.vl (Y.qz bg U (aO (d:=0) om) U U) (.an ?_))
 refine .an (.nil (.sr ?_))
 refine .mv ?_
 refine .vl (Y.zr U U aJ) (.vl (Y.ql U U) (.mv ?_))
 refine .a8 (d:=129) U (fun uP=>?_) (fun uP=>?_)
 refine .gw 129 (Y.zf U U) (.gw 129 (Y.zj U U) (.pk ?_))
 refine .mv ?_
 refine .a8 (d:=133) U (fun uQ=>?_) (fun uQ=>?_)
 refine .gz 133 (.gz 133 (.gz 133 (.gz 133 (.gz 137 (.gz 137 (.gz 137 (.gz 133 (.pk ?_))))))))
 refine .nil (.aQ U (.sr (.an (.nil (.ret ?_)))))
 exact .rb rfl (df (fun h=>by simp only [Fits,na,Int.reduceEq,Bool.not_eq_true,false_and,true_and,and_true,and_false,or_false,false_or,ne_eq] at h; have h1:=h cj om; have h2:=ha cj om; unfold fo at h1; omega))
 refine .gw 133 (Y.zf U U) (.gw 133 (Y.zr U U om) (.gw 133 (Y.ql U U) (.gw 133 (Y.zf U U) (.a8 (d:=137) U (fun Ax=>?_) (fun Ax=>?_)))))
 refine .gw 137 (Y.zf U U) (.gw 137 (Y.zf U U) (.gw 137 (Y.zj U U) (.gw 133 (Y.zm U U U) (.pk ?_))))
 refine .nil (.aB U (fun Ay=>?_) (fun Ay=>?_))
 refine .sr (.an (.nil (.ret ?_)))
 exact .rb rfl (df (fun h=>by simp only [Fits,na,Int.reduceEq,Bool.not_eq_true,false_and,true_and,and_true,and_false,or_false,false_or,ne_eq] at h; have h1:=h cj om; have h2:=ha cj om; unfold fo at h1; omega))
 refine .skip (⟨true,decide ((mH.getD cj 0) ≠ jH),.inl ⟨uP,uQ,Ax,Ay,U,U⟩,Le.mk (.c4 (.c2 (.c (.cons (aT U j1) (.cons (aT U j1) .nil))))) (.c .nil)⟩)
 refine .gz 137 (.gz 137 (.gz 137 (.gw 133 (Y.zm U U U) (.pk ?_))))
 exact .nil (.cu U (.skip (⟨false,false,.inr (.inl ⟨uP,uQ,Ax,U,U⟩),Le.mk (.c4 (.c2 (.c (.cons (aT U j1) (.cons (aT U j1) .nil))))) (.c .nil)⟩)))
 refine .gz 129 (.gz 129 (.pk ?_))
 refine .mv ?_
 refine .gw 133 (Y.zf U U) (.gw 133 (Y.zr U U om) (.gw 133 (Y.ql U U) (.gw 133 (Y.zf U U) (.a8 (d:=137) U (fun Ax=>?_) (fun Ax=>?_)))))
 refine .gw 137 (Y.zf U U) (.gw 137 (Y.zf U U) (.gw 137 (Y.zj U U) (.gw 133 (Y.zm U U U) (.pk ?_))))
 refine .nil (.aB U (fun Ay=>?_) (fun Ay=>?_))
 refine .sr (.an (.nil (.ret ?_)))
 exact .rb rfl (df (fun h=>by simp only [Fits,na,Int.reduceEq,Bool.not_eq_true,false_and,true_and,and_true,and_false,or_false,false_or,ne_eq] at h; have h1:=h cj om; have h2:=ha cj om; unfold fo at h1; omega))
 refine .skip (⟨true,decide ((mH.getD cj 0) ≠ jH),.inr (.inr (.inl ⟨uP,Ax,Ay,U,U⟩)),Le.mk (.c4 (.c2 (.c (.cons (aT U j1) (.cons (aT U j1) .nil))))) (.c .nil)⟩)
 refine .gz 137 (.gz 137 (.gz 137 (.gw 133 (Y.zm U U U) (.pk ?_))))
 exact .nil (.cu U (.skip (⟨false,false,.inr (.inr (.inr (⟨uP,Ax,U,U⟩))),Le.mk (.c4 (.c2 (.c (.cons (aT U j1) (.cons (aT U j1) .nil))))) (.c .nil)⟩)))
 refine .region (.vl (Y.qb U U aJ) (.mv ?_))
 refine .nil (⟨cj + 1,⟨om,uj hm (by have h2:=ha cj om; unfold fo; omega)⟩,om,Le.mk (.c2 (.c (.cons (ak U aY) .nil))) (.c .nil)⟩)
 refine .exit (.sr (.an (.nil (.ret ?_))))
 exact .rb rfl (dt (by simp only [Fits,na,Int.reduceEq,Bool.not_eq_true,false_and,true_and,and_true,and_false,or_false,false_or,ne_eq]; exact fun k hk=>hm k om))
 refine .sr (.vl (Y.ql U U) (.an (.nil ?_)))
 refine .aB U (fun wR=>?_) (fun wR=>?_)
 have hk:=s7.k4 wR
 refine .seq (.de U (.blind 0 U au (ax.move U U) ab ?_))
 refine .one 1 U au (.vl (Y.qs (m:=0) a7 U U aY aJ) (.nil ⟨U,(.one 2 U au (.vl (Y.qz bg U (aO (d:=0) om) U U) (.nil ⟨U,(.one 3 U au (.vl (Y.ql U U) (.nil ⟨U,(.blind 4 U au (ax.move U U) ab ?_)⟩)))⟩)))⟩))
 refine .a8 (d:=150) U (fun Tg=>?_) (fun Tg=>?_)
 refine .gV 5 U au U ab U (ax.move U U) ab (.gV 8 U au U ab U (ax.move U U) ab (.one 6 U au (.gw 150 (Y.qs (m:=1) a7 U U aY om) (.nil ⟨U,(.one 7 U au (.gw 150 (Y.qz bg U (aO (d:=0) om) U U) (.nil ⟨U,(.one 9 U au (.gw 150 (Y.ql U U) (.nil ⟨U,(.one 10 U au (.pk ?_))⟩)))⟩)))⟩))))
 refine .nil ⟨U,(.blind 11 U au (ax.move U U) ab ?_)⟩
 refine .a8 (d:=157) U (fun wV=>?_) (fun wV=>?_)
 refine .gV 12 U au U ab U (ax.move U U) ab (.gV 13 U au U ab U (ax.fieldAddr dE U U) ab (.gV 16 U au U ab U (ax.fieldAddr dE U U) ab ?_))
 refine .two 14 17 U U au ?_ ?_
 refine .gw 157 (Y.qz fV U U U U) (.nil ⟨U,(.two 15 17 U U au ?_ ?_)⟩)
 refine .aC (d:=157) U ab U (.aR uw (ke (w:=jH) (x:=c.num) (om)) U (.ai U U (.ai U U .nil)) ab U ?_)
 refine .nil ⟨U,(.br (n:=0) [17,18,19,20] [] 0 U au (.rn 17 U U U (Y.qz fV U U U U) (.rn 18 U U U (Y.ql U U) ?_)))⟩
 exact .cn 19 U (Y.zm U U U) (.cn 20 U (Y.qf U U) (.nil (.done au (.ret (.rb rfl (dd yP))))))
 refine .gw 157 (Y.qz fV U U U U) (.nil ⟨U,(.one 15 U au (.aC (d:=157) U ab U ?_))⟩)
 refine .aR uw (ke (w:=jH) (x:=c.num) (om)) U (.ai U U (.ai U U .nil)) ab U ?_
 refine .nil ⟨U,(.br (n:=0) [18,19,20] [] 0 U au (.rn 18 U U U (Y.ql U U) (.cn 19 U (Y.zm U U U) (.cn 20 U (Y.qf U U) (.nil (.done au (.ret (.rb U (dd yP)))))))))⟩
 refine .gw 157 (Y.qz fV U U U U) (.nil ⟨U,(.br (n:=4) [14] [15,18,19,20] 15 U au (.rn 14 U U U (Y.qz fV U U U U) (.nil (.one 15 U au (.aC (d:=157) U ab U ?_)))))⟩)
 refine .aR uw (ke (w:=jH) (x:=c.num) (om)) U (.ai U U (.ai U U .nil)) ab U ?_
 refine .nil ⟨U,(.br (n:=0) [18,19,20] [] 0 U au (.rn 18 U U U (Y.ql U U) (.cn 19 U (Y.zm U U U) (.cn 20 U (Y.qf U U) (.nil (.done au (.ret (.rb U (dd yP)))))))))⟩
 refine .bw 12 U au U ab ab U U (.bw 13 U au U ab ab U U (.bw 14 U au U ab ab U U ?_))
 refine .bw 15 U au U ab ab U U (.bw 16 U au U ab ab U U (.bw 17 U au U ab ab U U ?_))
 refine .bw 18 U au U ab ab U U (.br (n:=0) [19,20] [] 0 U au (.cn 19 U (Y.zm U U U) (.cn 20 U (Y.qf U U) (.nil (.done au (.ret (.rb U (df yP))))))))
 refine .bw 5 U au U ab ab U U (.bw 6 U au U ab ab U U (.bw 7 U au U ab ab U U ?_))
 refine .bw 8 U au U ab ab U U (.bw 9 U au U ab ab U U (.one 10 U au (.pk ?_)))
 refine .nil ⟨U,(.blind 11 U au (ax.move U U) ab (.bw 12 U au U ab ab U U (.bw 13 U au U ab ab U U ?_)))⟩
 refine .bw 14 U au U ab ab U U (.bw 15 U au U ab ab U U (.bw 16 U au U ab ab U U ?_))
 refine .bw 17 U au U ab ab U U (.bw 18 U au U ab ab U U (.br (n:=0) [19,20] [] 0 U au ?_))
 exact .cn 19 U (Y.zm U U U) (.cn 20 U (Y.qf U U) (.nil (.done au (.ret (.rb rfl (df yP))))))
 refine .sr (.vl (Y.ql U U) (.an (.nil ?_)))
 refine .aB U (fun Ix=>?_) (fun Ix=>?_)
 have hk:=s7.k5 Ix
 refine .sr (.mv ?_)
 refine .vl (Y.qs (m:=0) a7 U U aY aJ) (.vl (Y.qz bg U (aO (d:=0) om) U U) (.mv ?_))
 refine .vl (Y.ql U U) (.mv ?_)
 refine .a8 (d:=173) U (fun Th=>?_) (fun Th=>?_)
 refine .gw 173 (Y.zf U U) (.gw 173 (Y.qs (m:=1) a7 U U aY om) (.gw 173 (Y.qz bg U (aO (d:=0) om) U U) (.gw 173 (Y.zf U U) (.gw 173 (Y.ql U U) (.pk ?_)))))
 refine .an (.nil (.ret ?_))
 exact .rb rfl (dd yP)
 refine .gz 173 (.gz 173 (.gz 173 (.gz 173 (.gz 173 (.pk ?_)))))
 refine .an (.nil (.ret ?_))
 exact .rb rfl (df yP)
 refine .sr (.vl (Y.ql U U) (.an (.nil ?_)))
 refine .aB U (fun Da=>?_) (fun Da=>?_)
 have hk:=s7.k6 Da
 refine .sr (.mv ?_)
 refine .vl (Y.qs (m:=0) a7 U U aY aJ) (.vl (Y.qz bg U (aO (d:=0) om) U U) (.vl (Y.ql U U) (.mv ?_)))
 refine .a8 (d:=186) U (fun Lf=>?_) (fun Lf=>?_)
 refine .gw 186 (Y.qo eK U U) (.gw 186 (Y.qz ln U U U U) (.gw 186 (Y.qo bY U U) (.gw 186 (Y.qz bg U U U U) (.gw 186 (Y.qr (m:=(c.mem).toNat) jE U U om (ao (d:=default) om)) (.gw 186 (Y.qo mc U U) (.gw 186 (Y.qz bg U U U U) (.gw 186 (Y.zf U U) (.gw 186 (Y.ql U U) (.pk ?_)))))))))
 refine .an (.nil (.ret ?_))
 exact .rb rfl (dd yP)
 refine .gz 186 (.gz 186 (.gz 186 (.gz 186 (.gz 186 (.gz 186 (.gz 186 (.gz 186 (.gz 186 (.pk ?_)))))))))
 refine .an (.nil (.ret ?_))
 exact .rb rfl (df yP)
 refine .sr (.vl (Y.ql U U) (.an (.nil ?_)))
 refine .aB U (fun Iy=>?_) (fun Iy=>?_)
 have hk:=s7.k7 Iy
 refine .seq (.j9 U au (.val (Y.zf U U) ab (.val (Y.qs (m:=0) a7 U U aY om) ab (.val (Y.qz bg U (aO (d:=0) om) U U) ab (.val (Y.ql U U) ab (.val (Y.zf U U) ab (.a8 (d:=203) U (fun Ti=>?_) (fun Ti=>?_))))))))
 refine .aC (d:=203) U ab U (.val (Y.qo eK U U) ab (.aC (d:=203) U ab U ?_))
 refine .val (Y.qz ln U U U U) ab (.aC (d:=203) U ab U (.val (Y.qo bY U U) ab (.aC (d:=203) U ab U (.val (Y.qz bg U U U U) ab (.aC (d:=203) U ab U ?_)))))
 refine .val (Y.qr (m:=(c.mem).toNat) jE U U om (ao (d:=default) om)) ab (.aC (d:=203) U ab U (.val (Y.qo mc U U) ab (.aC (d:=203) U ab U ?_)))
 exact .val (Y.qz bg U U U U) ab (.aC (d:=203) U ab U (.val (Y.zf U U) ab (.aC (d:=203) U ab U (.val (Y.qs (m:=2) a7 U U aY om) ab (.aC (d:=203) U ab U (.val (Y.qz bg U (aO (d:=0) om) U U) ab (.aC (d:=203) U ab U (.val (Y.ql U U) ab (.val (Y.zm U U U) ab (.val (Y.qf U U) ab (.nil (.ret (.rb rfl (dd yP))))))))))))))
 refine .ay (d:=203) U ab ab U U (.ay (d:=203) U ab ab U U (.ay (d:=203) U ab ab U U ?_))
 refine .ay (d:=203) U ab ab U U (.ay (d:=203) U ab ab U U (.ay (d:=203) U ab ab U U ?_))
 refine .ay (d:=203) U ab ab U U (.ay (d:=203) U ab ab U U (.ay (d:=203) U ab ab U U ?_))
 exact .ay (d:=203) U ab ab U U (.ay (d:=203) U ab ab U U (.val (Y.zm U U U) ab (.val (Y.qf U U) ab (.nil (.ret (.rb rfl (df yP)))))))
 refine .sr (.vl (Y.ql U U) (.an (.nil ?_)))
 refine .aB U (fun Pv=>?_) (fun Pv=>?_)
 have hk:=s7.k8 Pv
 refine .sr (.fa jf ?_)
 refine .ld bn ?_
 refine .fa dE ?_
 refine .ld fV ?_
 refine .vl (Y.qr (m:=c.num) a7 U U aY (ao (d:=0) om)) (.ld bg ?_)
 refine .mv ?_
 refine .vl (Y.ql U U) (.an (.nil (.ret ?_)))
 exact .rb rfl (dd yP)
 refine .sr (.vl (Y.ql U U) (.an (.nil ?_)))
 refine .aB U (fun Tj=>?_) (fun Tj=>?_)
 refine .sr (.mv ?_)
 refine .vl (Y.ql U U) (.an (.nil (.ret ?_)))
 exact .rb rfl (dd yP)
 have NF:c.kind = 10:=by have:=s7.kind; omega
 have hk:=s7.NF NF
 refine .skip (.sr (.fa cK ?_))
 refine .ld gy ?_
 refine .fa bY ?_
 refine .ld bg ?_
 refine .vl (Y.qr (m:=(c.mem).toNat) fu U U om (ao (d:=default) om)) (.fa me ?_)
 refine .ld bg ?_
 refine .mv ?_
 refine .vl (Y.ql U U) (.an (.nil (.ret ?_)))
 exact .rb rfl (dd (by (simp only [Fits,bR,eY,<- xk,NF,Int.reduceEq,Bool.not_eq_true,false_and,true_and,and_true,and_false,or_false,false_or,ne_eq]) <;> omega))
open Go Go.AW Go.Proofs
theorem wW{n:ae}{c:Cell}(hs:n.Small)(hf:bx n)(hc:c ∈ n.cells):aw Try.prog 163 [.agg (Cell.row c),.fp (ae.row n) 0] [] [] (fun r o=>r = .v (.bool (!decide (Fits n c))) /\ o = []):=by
 refine aw.of Try.func163 U U U (n:=8) ab (aH U) (.sr (.box 102 U U U U U ab ?_))
 refine .an ?_
 refine .nil (.sr (.vl (Y.za fF U U (aH U) U U) (.vl (Y.za fq U U (aH U) U U) (.aR Oi (CZ (n:=n) (c:=c) hs (hs.args _ hc) (hs.zP _ hc) (hf.cell hc).2.1 (hf.cell hc).IX) U (.ai U U (.ai U U .nil)) ab U (.vl (Y.zl U) (.an (.nil (.ret ?_))))))))
 exact .rb rfl (rfl)
theorem yv{n:ae}(hs:n.Small)(hf:bx n):aw Try.prog 109 [.agg (ae.row n)] [] [] (fun r o=>r = .v (.bool (decide (Fit n))) /\ o = []):=by
 refine aw.of Try.func109 U U U (n:=63) ab (aH U) ?_
 have Pk:=hf.dy; have QM:=hf.gm; have Lb:=hf.bZ; have Iu:=hf.freeze; have Iv:=hf.done; unfold In at Iu Iv; have J5:=hf.cO; have QN:=hf.dm
 refine .sr (.box 101 U U U U U ab ?_)
 refine .an ?_
 refine .nil (.seq (.sr (.fa bB ?_)))
 refine .ld bn ?_
 refine .fa qF ?_
 refine .ld bg ?_
 refine .vl (Y.qr (m:=(n.freeze).toNat) a7 U U om (ao (d:=0) om)) (.ld bg ?_)
 refine .vl (Y.zj U U) (.mv ?_)
 refine .a8 (d:=12) U (fun yX=>?_) (fun yX=>?_)
 refine .gz 12 (.gz 12 (.gz 12 (.gz 12 (.gz 12 (.gz 12 (.gz 12 (.pk ?_)))))))
 refine .nil (.aQ U (.sr (.an (.nil (.ret ?_)))))
 exact .rb rfl (df (fun h=>by have h1:=h.freeze; have h2:=h.done; unfold ae.wd at h1 h2; first | contradiction | omega))
 refine .gw 12 (Y.qo bB U U) (.gw 12 (Y.qz bn U U U U) (.gw 12 (Y.qo sq U U) (.gw 12 (Y.qz bg U U U U) (.gw 12 (Y.qr (m:=(n.done).toNat) a7 U U om (ao (d:=0) om)) (.gw 12 (Y.qz bg U U U U) (.gw 12 (Y.zj U U) (.pk ?_)))))))
 refine .nil (.aB U (fun CJ=>?_) (fun CJ=>?_))
 refine .sr (.an (.nil (.ret ?_)))
 exact .rb rfl (df (fun h=>by have h1:=h.freeze; have h2:=h.done; unfold ae.wd at h1 h2; first | contradiction | omega))
 refine .skip (.seq (.sr (.fa cK ?_)))
 refine .ld gy ?_
 refine .vl (Y.qw (n:=n.streams.length) fu U dY) (.mv ?_)
 refine .nil (.block (.gS (fun (gL:Nat)=>⟨[(1,.ptr 101 0 0 0),(22,.fz 3 (n.streams.map bI.row)),(23,vi n.streams.length),(24,vi gL)],[(101,.cells (ae.row n))]⟩) (fun gL=>((gL:Int) <= (n.streams.length:Int)) /\ (∀ j,j < gL -> jD n j)) (fun gL=>((n.streams.length:Int) - (gL:Int)).toNat) 0 (⟨om,fun j hj=>by omega⟩) (Le.mk (.c2 (.c (.cons (ak U aY) .nil))) (.c .nil)) (fun gL Au=>?_)))
 obtain ⟨FM,xw⟩:=Au
 refine .sr (.vl (Y.zb U U) (.nil (.seq (.aB U (fun Pw=>?_) (fun Pw=>?_)))))
 refine .skip (.kY (fun (Az:Bool) (AA:Bool)=>⟨[(1,.ptr 101 0 0 0),(22,.fz 3 (n.streams.map bI.row)),(23,vi n.streams.length),(24,vi gL),(40,.ptr 104 0 0 2),(41,.v (.bool ((n.streams.getD gL default).out))),(42,.v (.bool Az)),(55,.v (.bool AA))],[(101,.cells (ae.row n)),(104,.cells [.v (.string ((n.streams.getD gL default).name)),vi ((n.streams.getD gL default).width),.v (.bool ((n.streams.getD gL default).out))])]⟩) (fun Az AA=>jD n gL) ?_ (fun Az AA Iz=>?_))
 refine .block (.sr (.mv ?_))
 refine .vl (Y.qr (m:=gL) fu U U aY (ao (d:=default) om)) (.vl (Y.za EK U U (aH U) U U) (.alloc 104 mj U U ab ?_))
 refine .an ?_
 refine .aj EL U U U U U U (aH U) U (.nil (.seq (.j9 U au ?_)))
 obtain ⟨_,_,KX,JA,_⟩:=hf.strs gL om
 unfold In at KX JA
 refine .val (Y.qo bB U U) ab (.val (Y.qz bn U U U U) ab (.val (Y.qo lL U U) ab (.val (Y.qz bn U U U U) ab (.val (Y.zf U U) ab (.val (Y.qr (m:=gL) a7 U U aY (ao (d:=0) om)) ab (.val (Y.qz bg U U U U) ab (.val (Y.qr (m:=(n.bD.getD gL 0).toNat) a7 U U om (ao (d:=0) om)) ab (.val (Y.qz bg U U U U) ab (.val (Y.zj U U) ab (.val (Y.zf U U) ab (.a8 (d:=39) U (fun sv=>?_) (fun sv=>?_))))))))))))
 refine .ay (d:=39) U ab ab U U (.ay (d:=39) U ab ab U U (.ay (d:=39) U ab ab U U ?_))
 refine .ay (d:=42) U ab ab U U (.ay (d:=42) U ab ab U U (.ay (d:=42) U ab ab U U ?_))
 refine .ay (d:=42) U ab ab U U (.ay (d:=42) U ab ab U U (.ay (d:=42) U ab ab U U ?_))
 refine .ay (d:=42) U ab ab U U (.ay (d:=42) U ab ab U U (.ay (d:=42) U ab ab U U ?_))
 refine .ay (d:=42) U ab ab U U (.ay (d:=42) U ab ab U U (.ay (d:=42) U ab ab U U ?_))
 refine .ay (d:=39) U ab ab U U (.val (Y.zm U U U) ab (.nil (.aQ U (.sr (.an (.nil (.ret ?_)))))))
 exact .rb rfl (df (fun h=>by have h1:=h.strs gL om; unfold jD ae.wd at h1; grind))
 refine .aC (d:=39) U ab U (.val (Y.qo gx U U) ab (.aC (d:=39) U ab U ?_))
 refine .val (Y.qz vT U U U U) ab (.aC (d:=39) U ab U (.val (Y.zf U U) ab (.split (d:=42) U (fun xm=>?_) (fun xm=>?_))))
 have Mp:=JA bO
 refine .aC (d:=42) U ab U (.val (Y.qo bB U U) ab (.aC (d:=42) U ab U ?_))
 refine .val (Y.qz bn U U U U) ab (.aC (d:=42) U ab U (.val (Y.qo kb U U) ab (.aC (d:=42) U ab U (.val (Y.qz bn U U U U) ab (.aC (d:=42) U ab U ?_)))))
 refine .val (Y.zf U U) ab (.aC (d:=42) U ab U ?_)
 refine .val (Y.qr (m:=gL) a7 U U aY (ao (d:=0) om)) ab (.aC (d:=42) U ab U (.val (Y.qz bg U U U U) ab (.aC (d:=42) U ab U ?_)))
 refine .val (Y.qr (m:=(n.data.getD gL 0).toNat) a7 U U om (ao (d:=0) om)) ab (.aC (d:=42) U ab U (.val (Y.qz bg U U U U) ab (.aC (d:=42) U ab U ?_)))
 refine .val (Y.qo me U U) ab (.aC (d:=42) U ab U (.val (Y.qz bg U U U U) ab (.aC (d:=42) U ab U (.val (Y.zj U U) ab (.aC (d:=39) U ab U ?_)))))
 refine .val (Y.zm U U U) ab (.val (Y.zm U U U) ab (.nil (.aB U (fun KY=>?_) (fun KY=>?_))))
 refine .sr (.an (.nil (.ret ?_)))
 exact .rb rfl (df (fun h=>by have h1:=h.strs gL om; unfold jD ae.wd at h1; grind))
 refine .skip ⟨true,decide ((n.aa.getD ((n.data.getD gL 0).toNat) 0) ≠ ((n.streams.getD gL default).width)),by unfold jD ae.wd; grind,Le.mk (.c4 (.c2 (.cons (aT U j1) (.cons (aT U j1) .nil)))) (.c (.c .nil))⟩
 refine .ay (d:=42) U ab ab U U (.ay (d:=42) U ab ab U U (.ay (d:=42) U ab ab U U ?_))
 refine .ay (d:=42) U ab ab U U (.ay (d:=42) U ab ab U U (.ay (d:=42) U ab ab U U ?_))
 refine .ay (d:=42) U ab ab U U (.ay (d:=42) U ab ab U U (.ay (d:=42) U ab ab U U ?_))
 refine .ay (d:=42) U ab ab U U (.ay (d:=42) U ab ab U U (.ay (d:=42) U ab ab U U ?_))
 exact .aC (d:=39) U ab U (.val (Y.zm U U U) ab (.val (Y.zm U U U) ab (.nil (.cu U (.skip ⟨false,false,by unfold jD ae.wd; grind,Le.mk (.c4 (.c2 (.cons (aT U j1) (.cons (aT U j1) .nil)))) (.c (.c .nil))⟩)))))
 refine .region (.vl (Y.qb U U aJ) (.mv ?_))
 refine .nil (⟨gL + 1,⟨om,dp xw Iz⟩,om,Le.mk (.c2 (.c (.cons (ak U aY) .nil))) (.c .nil)⟩)
 refine .exit (.sr (.fa bS ?_))
 refine .ld fU ?_
 refine .sh (Sh.iY 101 U U) (.vl (Y.zc U U U U) (.aR Og (oq (l:=n.cells) (p:=fun z=>!decide (Fits n z)) (om) Oh (fun z hz=>wW hs hf hz)) U (.ai U U (.ai U U .nil)) ab U ?_))
 refine .vl (Y.zl U) (.an (.nil (.ret ?_)))
 exact .rb rfl (db (xI (by unfold ae.wd; omega) (by unfold ae.wd; omega) (fun j hj=>xw j om)))
open Go Go.AW Go.Proofs
theorem uR{n:ae}(hs:n.Small)(Mn:n.aa.length + n.ins.length <= 17592186044416):aw Try.prog 52 [.agg (ae.row n)] [] [] (fun r o=>∃ (l:List Int) (e:Int),lJ n l e /\ r = .tup [.dK 1 (l.map ah),vi e] /\ o = []):=by
 refine aw.of Try.func52 U U U (n:=169) ab (aH U) (.sr (.box 101 U U U U U ab ?_))
 refine .an ?_
 refine .an ?_
 refine .nil (.seq (.sr (.vl (Y.za fF U U (aH U) U U) (.aR NU (yu (n:=n) hs (om)) U (.ai U U .nil) ab U ?_))))
 refine .vl (Y.zl U) (.nil (.dX U (fun pU=>?_) (fun pU=>?_)))
 refine .sr (.an ?_)
 refine .an ?_
 exact .nil (.sh (Sh.vr (d:=2) 1 U) (.ret (⟨_,_,U,U,([]:List Int),3,.inl ⟨bO,U,U⟩,U,U⟩)))
 have hf:bx n:=by assumption
 refine .skip (.seq (.sr (.vl (Y.za fF U U (aH U) U U) (.aR NV (yv (n:=n) hs bO) U (.ai U U .nil) ab U (.vl (Y.zl U) (.nil (.dX U (fun Pw=>?_) (fun Pw=>?_))))))))
 refine .sr (.an ?_)
 refine .an ?_
 exact .nil (.sh (Sh.vr (d:=2) 1 U) (.ret (⟨_,_,U,U,([]:List Int),13,.inr (.inl ⟨bO,bO,U,U⟩),U,U⟩)))
 have KO:Fit n:=by assumption
 have Qy:=hf.dm; have MQ:=hf.cO
 refine .skip (.sr (.an ?_))
 refine .sh (Sh.nil (d:=4) 104 1 U ab) (.nil (.sr (.fa bS ?_)))
 refine .ld fU ?_
 refine .vl (Y.qw (n:=n.cells.length) dU U dY) (.makeSlice (n:=n.cells.length) a7 dG U U U U om om ab ?_)
 refine .bX U ab (.sh (Sh.dD (d:=5) (n:=n.cells.length) 105 ((List.replicate n.cells.length 0).map ah) U iX (aW (by simp)) ab) (.nil (.sr (.fa bB ?_))))
 refine .ld bn ?_
 refine .vl (Y.qw (n:=n.aa.length) a7 U dY) (.makeSlice (n:=n.aa.length) ee pJ U U U U om om ab ?_)
 refine .sh (Sh.po (d:=33) 1 U) (.bX U ab (.sh (Sh.dD (d:=6) (n:=n.aa.length) 106 ((List.replicate n.aa.length []).map ij) U iX (aW (by simp)) ab) (.nil (.sr (.fa bB ?_)))))
 refine .ld bn ?_
 refine .vl (Y.qw (n:=n.aa.length) a7 U dY) (.makeSlice (n:=n.aa.length) ss Sj U U U U om om ab ?_)
 refine .bX U ab (.sh (Sh.dD (d:=7) (n:=n.aa.length) 107 ((List.replicate n.aa.length false).map jO) U iX (aW (by simp)) ab) (.nil (.seq (.sr (.fa bS ?_)))))
 refine .ld fU ?_
 refine .vl (Y.qw (n:=n.cells.length) dU U dY) (.mv ?_)
 refine .nil (.block ?_)
 refine .gT (fun (gY:Nat) (eP:List Bool)=>⟨[(1,.ptr 101 0 0 0),(4,.aN 104 1 0 0),(5,.aN 105 1 0 n.cells.length),(6,.aN 106 1 0 n.aa.length),(7,.aN 107 1 0 n.aa.length),(39,.fz 6 (n.cells.map Cell.row)),(40,vi n.cells.length),(41,vi gY)],[(101,.cells (ae.row n)),(104,.rows 1 (([]:List Int).map ah)),(105,.rows 1 ((List.replicate n.cells.length 0).map ah)),(106,.rows 1 ((List.replicate n.aa.length []).map ij)),(107,.rows 1 (eP.map jO))]⟩) (fun gY eP=>(eP.length = n.aa.length) /\ ((gY:Int) <= (n.cells.length:Int)) /\ (fQ n gY eP)) (fun gY eP=>((n.cells.length:Int) - (gY:Int)).toNat) 0 (List.replicate n.aa.length false) (⟨ik,ik,fQ.init n⟩) (Le.mk (.c4 (.c2 (.c (.cons (ak U aY) .nil)))) (.c4 (.c .nil))) (fun gY eP Av=>?_)
 obtain ⟨JB,Ld,Tk⟩:=Av
 refine .sr (.vl (Y.zb U U) (.nil (.seq (.aB U (fun xm=>?_) (fun xm=>?_)))))
 refine .skip (.iu (fun (ly:List Bool)=>⟨[(1,.ptr 101 0 0 0),(4,.aN 104 1 0 0),(5,.aN 105 1 0 n.cells.length),(6,.aN 106 1 0 n.aa.length),(7,.aN 107 1 0 n.aa.length),(39,.fz 6 (n.cells.map Cell.row)),(40,vi n.cells.length),(41,vi gY)],[(101,.cells (ae.row n)),(104,.rows 1 (([]:List Int).map ah)),(105,.rows 1 ((List.replicate n.cells.length 0).map ah)),(106,.rows 1 ((List.replicate n.aa.length []).map ij)),(107,.rows 1 (ly.map jO))]⟩) (fun ly=>(ly.length = n.aa.length) /\ (fQ n (gY + 1) ly)) ?_ (fun ly Px=>?_))
 refine .block (.sr (.vl (Y.qr (m:=gY) dU U U aY (ao (d:=default) om)) (.vl (Y.za fq U U (aH U) U U) (.alloc 109 ez U U ab (.aj gi U U U U U U (aH U) U ?_)))))
 refine .nil (.sr (.fa ck ?_))
 refine .ld bg ?_
 refine .aR Hx (py (w:=((n.cells.getD gY default).kind))) U (.ai U U .nil) ab U (.nil (.aB U (fun I1=>?_) (fun I1=>?_)))
 have Lj:=hf.iQ (bC.jZ (n:=n) (i:=(gY:Int)) ⟨⟨om,om⟩,I1⟩)
 rw [mV] at Lj
 have Ir:=Lj; unfold In at Ir
 refine .region (.mv ?_)
 refine .fa eg ?_
 refine .ld bg ?_
 refine .vl (Y.qs (m:=((n.cells.getD gY default).out).toNat) ss U U om om) (.iB ((eP.set (((n.cells.getD gY default).out).toNat) true).map jO) QA U U U U U U U (aO (d:=false) om) (aH U) (eO U) (.nil (⟨eP.set (((n.cells.getD gY default).out).toNat) true,⟨ik,Tk.step om JB I1 Lj⟩,Le.mk (.c4 (.c2 (.c (.c .nil)))) (.c4 (.c .nil))⟩)))
 refine .skip (⟨eP,⟨om,Tk.skip I1⟩,Le.mk (.c4 (.c2 (.c (.c .nil)))) (.c4 (.c .nil))⟩)
 obtain ⟨Mq,Tl⟩:=Px
 refine .region (.vl (Y.qb U U om) (.mv ?_))
 refine .nil (⟨gY + 1,ly,⟨om,om,Tl⟩,om,Le.mk (.c4 (.c2 (.c (.cons (ak U aY) .nil)))) (.c4 (.c .nil))⟩)
 refine .exit (.seq (.seq ?_))
 have Py:fQ n n.cells.length eP:=by rw [show n.cells.length = gY by omega]; exact Tk
 refine .region (.fa bS ?_)
 refine .ld fU ?_
 refine .vl (Y.qw (n:=n.cells.length) dU U dY) (.mv ?_)
 refine .nil (.block ?_)
 refine .gT (fun (gZ:Nat) (fe:List Int)=>⟨[(1,.ptr 101 0 0 0),(4,.aN 104 1 0 fe.length),(5,.aN 105 1 0 n.cells.length),(6,.aN 106 1 0 n.aa.length),(7,.aN 107 1 0 n.aa.length),(54,.fz 6 (n.cells.map Cell.row)),(55,vi n.cells.length),(56,vi gZ)],[(101,.cells (ae.row n)),(104,.rows 1 (fe.map ah)),(105,.rows 1 ((List.replicate n.cells.length 0).map ah)),(106,.rows 1 ((List.replicate n.aa.length []).map ij)),(107,.rows 1 (eP.map jO))]⟩) (fun gZ fe=>((gZ:Int) <= (n.cells.length:Int)) /\ (fe = gC n gZ)) (fun gZ fe=>((n.cells.length:Int) - (gZ:Int)).toNat) 0 ([]:List Int) (⟨ik,U⟩) (Le.mk (.c (.cons (aM U ik) (.c4 (.c (.cons (ak U aY) .nil))))) (.c4 (.c .nil))) (fun gZ fe FW=>?_)
 obtain ⟨Pz,QO⟩:=FW
 refine .sr (.vl (Y.zb U U) (.nil (.seq (.aB U (fun DD=>?_) (fun DD=>?_)))))
 refine .skip (.iu (fun (nc:List Int)=>⟨[(1,.ptr 101 0 0 0),(4,.aN 104 1 0 nc.length),(5,.aN 105 1 0 n.cells.length),(6,.aN 106 1 0 n.aa.length),(7,.aN 107 1 0 n.aa.length),(54,.fz 6 (n.cells.map Cell.row)),(55,vi n.cells.length),(56,vi gZ)],[(101,.cells (ae.row n)),(104,.rows 1 (nc.map ah)),(105,.rows 1 ((List.replicate n.cells.length 0).map ah)),(106,.rows 1 ((List.replicate n.aa.length []).map ij)),(107,.rows 1 (eP.map jO))]⟩) (fun nc=>nc = gC n (gZ + 1)) ?_ (fun nc Lk=>?_))
 refine .block (.sr (.mv ?_))
 refine .vl (Y.qr (m:=gZ) dU U U aY (ao (d:=default) om)) (.vl (Y.za fq U U (aH U) U U) (.alloc 111 ez U U ab ?_))
 refine .an ?_
 refine .aj gi U U U U U U (aH U) U (.nil (.sr ?_))
 have Mj:=Ew n gZ; rw [<- QO] at Mj
 refine .fa ck ?_
 refine .ld bg ?_
 refine .aR Hx (py (w:=((n.cells.getD gZ default).kind))) U (.ai U U .nil) ab U (.vl (Y.zl U) (.nil (.dX U (fun GM=>?_) (fun GM=>?_))))
 refine .region (.mv ?_)
 refine .mv ?_
 refine .buildSlice (([(gZ:Int)]:List Int).map ah) a7 dG U U U U U (aq (s:=1) (f:=ah) (fun _=>U)) U U U ab ?_
 refine .cJ ah (fe ++ ([(gZ:Int)]:List Int)) a7 dG U U U U (bh ik) (aV ik) (b8 ik) ik ik ab ab ?_
 refine .an ?_
 refine .nil ⟨fe ++ ([(gZ:Int)]:List Int),by rw [sm,if_neg GM,QO],Le.mk (.c (.cons (aM U om) (.c4 (.c (.c .nil))))) (.c4 (.c .nil))⟩
 refine .skip ⟨fe,by rw [sm,if_pos GM,QO,List.append_nil],Le.mk (.c (.cons (aM U om) (.c4 (.c (.c .nil))))) (.c4 (.c .nil))⟩
 refine .region (.vl (Y.qb U U om) (.mv ?_))
 refine .nil (⟨gZ + 1,nc,⟨om,Lk⟩,om,Le.mk (.c (.cons (aM U om) (.c4 (.c (.cons (ak U aY) .nil))))) (.c4 (.c .nil))⟩)
 refine .exit (.sr (.an ?_))
 refine .sh (Sh.nil (d:=12) 112 1 U ab) (.nil (.seq (.sr (.fa bS ?_))))
 refine .ld fU ?_
 refine .vl (Y.qw (n:=n.cells.length) dU U dY) (.mv ?_)
 refine .nil (.block ?_)
 refine .Bj (fun (bJ:Nat) (du:List Int) (bp:List (List Int)) (dF:List Int)=>⟨[(1,.ptr 101 0 0 0),(4,.aN 104 1 0 fe.length),(5,.aN 105 1 0 n.cells.length),(6,.aN 106 1 0 n.aa.length),(7,.aN 107 1 0 n.aa.length),(12,.aN 112 1 0 dF.length),(71,.fz 6 (n.cells.map Cell.row)),(72,vi n.cells.length),(73,vi bJ)],[(101,.cells (ae.row n)),(104,.rows 1 (fe.map ah)),(105,.rows 1 (du.map ah)),(106,.rows 1 (bp.map ij)),(107,.rows 1 (eP.map jO)),(112,.rows 1 (dF.map ah))]⟩) (fun bJ du bp dF=>(du.length = n.cells.length) /\ (bp.length = n.aa.length) /\ ((bJ:Int) <= (n.cells.length:Int)) /\ (BI n bJ du bp dF)) (fun bJ du bp dF=>((n.cells.length:Int) - (bJ:Int)).toNat) 0 (List.replicate n.cells.length 0) (List.replicate n.aa.length []) ([]:List Int) (⟨ik,ik,ik,BI.init n⟩) (Le.mk (.c4 (.c (.cons (aM U ik) (.c2 (.cons (ak U aY) .nil))))) (.c4 (.c (.c .nil)))) (fun bJ du bp dF Ll=>?_)
 obtain ⟨wj,FU,Tm,Lm⟩:=Ll
 refine .sr (.vl (Y.zb U U) (.nil (.seq (.aB U (fun yw=>?_) (fun yw=>?_)))))
 refine .skip (.Bi (fun (fX:List Int) (km:List (List Int)) (jt:List Int)=>⟨[(1,.ptr 101 0 0 0),(4,.aN 104 1 0 fe.length),(5,.aN 105 1 0 n.cells.length),(6,.aN 106 1 0 n.aa.length),(7,.aN 107 1 0 n.aa.length),(12,.aN 112 1 0 jt.length),(71,.fz 6 (n.cells.map Cell.row)),(72,vi n.cells.length),(73,vi bJ)],[(101,.cells (ae.row n)),(104,.rows 1 (fe.map ah)),(105,.rows 1 (fX.map ah)),(106,.rows 1 (km.map ij)),(107,.rows 1 (eP.map jO)),(112,.rows 1 (jt.map ah))]⟩) (fun fX km jt=>(fX.length = n.cells.length) /\ ((km.length = n.aa.length) /\ (BI n (bJ + 1) fX km jt))) ?_ (fun fX km jt P2=>?_))
 refine .block (.sr (.mv ?_))
 refine .vl (Y.qr (m:=bJ) dU U U aY (ao (d:=default) om)) (.vl (Y.za fq U U (aH U) U U) (.alloc 114 ez U U ab ?_))
 refine .an ?_
 refine .aj gi U U U U U U (aH U) U (.nil (.seq (.sr ?_)))
 have VE:=hs.args (n.cells.getD bJ default) (eC om)
 have LW:=Lm.rl
 refine .fa ck ?_
 refine .ld bg ?_
 refine .aR Hx (py (w:=((n.cells.getD bJ default).kind))) U (.ai U U .nil) ab U (.vl (Y.zl U) (.nil (.dX U (fun GN=>?_) (fun GN=>?_))))
 refine .exit (⟨du,bp,dF,⟨om,⟨om,Lm.skip om GN⟩⟩,Le.mk (.c4 (.c (.cons (aM U om) (.c2 (.c .nil))))) (.c4 (.c (.c .nil)))⟩)
 refine .skip (.seq (.sr (.fa bT ?_)))
 refine .ld bn ?_
 refine .vl (Y.qw (n:=((n.cells.getD bJ default).args).length) a7 U dY) (.mv ?_)
 refine .nil (.block ?_)
 refine .e8 (fun (eL:Nat) (cV:List Int) (dQ:List (List Int))=>⟨[(1,.ptr 101 0 0 0),(4,.aN 104 1 0 fe.length),(5,.aN 105 1 0 n.cells.length),(6,.aN 106 1 0 n.aa.length),(7,.aN 107 1 0 n.aa.length),(12,.aN 112 1 0 dF.length),(13,vi bJ),(71,.fz 6 (n.cells.map Cell.row)),(72,vi n.cells.length),(73,vi bJ),(83,.fz 1 (((n.cells.getD bJ default).args).map ah)),(84,vi ((((n.cells.getD bJ default).args).length:Nat):Int)),(85,vi eL)],[(101,.cells (ae.row n)),(104,.rows 1 (fe.map ah)),(105,.rows 1 (cV.map ah)),(106,.rows 1 (dQ.map ij)),(107,.rows 1 (eP.map jO)),(112,.rows 1 (dF.map ah))]⟩) (fun eL cV dQ=>(cV.length = n.cells.length) /\ (dQ.length = n.aa.length) /\ ((eL:Int) <= ((((n.cells.getD bJ default).args).length:Nat):Int)) /\ (BJ n bJ eL du bp cV dQ)) (fun eL cV dQ=>(((((n.cells.getD bJ default).args).length:Nat):Int) - (eL:Int)).toNat) 0 du bp (⟨om,om,om,BJ.init Lm om⟩) (Le.mk (.c8 (.c4 (.cons (ak U aY) .nil))) (.c4 (.c (.c .nil)))) (fun eL cV dQ FV=>?_)
 obtain ⟨wj,FU,Pu,Mr⟩:=FV
 refine .sr (.vl (Y.zb U U) (.nil (.seq (.aB U (fun P3=>?_) (fun P3=>?_)))))
 refine .skip ?_
 refine .kY (fun (fY:List Int) (kq:List (List Int))=>⟨[(1,.ptr 101 0 0 0),(4,.aN 104 1 0 fe.length),(5,.aN 105 1 0 n.cells.length),(6,.aN 106 1 0 n.aa.length),(7,.aN 107 1 0 n.aa.length),(12,.aN 112 1 0 dF.length),(13,vi bJ),(71,.fz 6 (n.cells.map Cell.row)),(72,vi n.cells.length),(73,vi bJ),(83,.fz 1 (((n.cells.getD bJ default).args).map ah)),(84,vi ((((n.cells.getD bJ default).args).length:Nat):Int)),(85,vi eL)],[(101,.cells (ae.row n)),(104,.rows 1 (fe.map ah)),(105,.rows 1 (fY.map ah)),(106,.rows 1 (kq.map ij)),(107,.rows 1 (eP.map jO)),(112,.rows 1 (dF.map ah))]⟩) (fun fY kq=>(fY.length = n.cells.length) /\ ((kq.length = n.aa.length) /\ (BJ n bJ (eL + 1) du bp fY kq))) ?_ (fun fY kq P4=>?_)
 refine .block (.sr (.vl (Y.qr (m:=eL) a7 U U aY (ao (d:=0) om)) (.ld bg ?_)))
 refine .an (.nil (.sr ?_))
 have Ms:=hf.um (i:=(bJ:Int)) ⟨om,om⟩ (cg (i:=eL) (by rw [mV]; omega))
 rw [mV] at Ms
 have Tn:=Ms; unfold In at Tn
 have Ml:=Mr.Kf
 have Ln:=BJ.len Lm Mr Ms
 have VF:=Ey hs (bJ + 1); rw [uq om] at VF
 refine .mv ?_
 refine .mv ?_
 refine .vl (Y.qs (m:=(((n.cells.getD bJ default).args).getD eL 0).toNat) ss U U om om) (.vl (Y.qz vT U (aO (d:=false) om) U U) (.nil (.cond U (fun J6=>?_) (fun J6=>?_))))
 refine .sr (.mv ?_)
 refine .mv ?_
 refine .vl (Y.qs (m:=bJ) a7 U U aY om) (.vl (Y.qz bg U (aO (d:=0) ik) U U) (.vl (Y.qb U U om) (.vl (Y.qs (m:=bJ) a7 U U aY om) (.iB ((cV.set bJ ((cV.getD bJ 0) + 1)).map ah) dT U U U U U U U (aO (d:=0) om) (aH U) (eO U) ?_))))
 refine .nil (.region (.mv ?_))
 refine .mv ?_
 refine .mv ?_
 refine .mv ?_
 refine .vl (Y.qs (m:=(((n.cells.getD bJ default).args).getD eL 0).toNat) ee U U om om) (.NC ((dQ.map ij).set (0 + ((((n.cells.getD bJ default).args).getD eL 0).toNat)) [.no]) bn U U (aO (d:=[]) om) U U ab ?_)
 refine .mv ?_
 refine .buildSlice (([(bJ:Int)]:List Int).map ah) a7 dG U U U U U (aq (s:=1) (f:=ah) (fun _=>U)) U U U ab ?_
 refine .sh (Sh.dD (d:=104) (n:=(dQ.getD ((((n.cells.getD bJ default).args).getD eL 0).toNat) []).length) 204 ((dQ.getD ((((n.cells.getD bJ default).args).getD eL 0).toNat) []).map ah) U iX (aW U) ab) (.cJ ah ((dQ.getD ((((n.cells.getD bJ default).args).getD eL 0).toNat) []) ++ ([(bJ:Int)]:List Int)) a7 dG U U U U (bh ik) (aV ik) (b8 ik) ik ik ab ab (.vl (Y.qs (m:=(((n.cells.getD bJ default).args).getD eL 0).toNat) ee U U om om) (.sh (Sh.dL (d:=107) (o:=204) U U (aW om) ab) (.Bn ((dQ.set ((((n.cells.getD bJ default).args).getD eL 0).toNat) ((dQ.getD ((((n.cells.getD bJ default).args).getD eL 0).toNat) []) ++ ([(bJ:Int)]:List Int))).map ij) fG U U U (Bo om) ab (xF U) (.nil (⟨cV.set bJ ((cV.getD bJ 0) + 1),dQ.set ((((n.cells.getD bJ default).args).getD eL 0).toNat) ((dQ.getD ((((n.cells.getD bJ default).args).getD eL 0).toNat) []) ++ ([(bJ:Int)]:List Int)),⟨ik,⟨ik,Mr.step om wj FU om Ms ((fQ.all Py Ms).1 J6)⟩⟩,Le.mk (.c8 (.c4 (.c .nil))) (.c4 (.c (.c .nil)))⟩))))))
 refine .skip (⟨cV,dQ,⟨om,⟨om,Mr.skip om (fun h=>by rw [(fQ.all Py Ms).2 h] at J6; cases J6)⟩⟩,Le.mk (.c8 (.c4 (.c .nil))) (.c4 (.c (.c .nil)))⟩)
 obtain ⟨Mt,Mu,Lo⟩:=P4
 refine .region (.vl (Y.qb U U om) (.mv ?_))
 refine .nil (⟨eL + 1,fY,kq,⟨om,om,om,Lo⟩,om,Le.mk (.c8 (.c4 (.cons (ak U aY) .nil))) (.c4 (.c (.c .nil)))⟩)
 refine .exit (.sr (.mv ?_))
 refine .mv ?_
 refine .vl (Y.qs (m:=bJ) a7 U U aY om) (.vl (Y.qz bg U (aO (d:=0) ik) U U) (.vl (Y.ql U U) (.nil (.aB U (fun AB=>?_) (fun AB=>?_)))))
 refine .region (.mv ?_)
 refine .mv ?_
 refine .buildSlice (([(bJ:Int)]:List Int).map ah) a7 dG U U U U U (aq (s:=1) (f:=ah) (fun _=>U)) U U U ab ?_
 refine .cJ ah (dF ++ ([(bJ:Int)]:List Int)) a7 dG U U U U (bh ik) (aV ik) (b8 ik) ik ik ab ab ?_
 refine .an ?_
 refine .nil (⟨cV,dQ,dF ++ ([(bJ:Int)]:List Int),⟨om,⟨om,(BJ.fin Lm om GN (by rw [show (n.cells.getD bJ default).args.length = eL by omega]; exact Mr)).1 AB⟩⟩,Le.mk (.c4 (.c (.cons (aM U om) (.c2 (.c .nil))))) (.c4 (.c (.c .nil)))⟩)
 refine .skip (⟨cV,dQ,dF,⟨om,⟨om,(BJ.fin Lm om GN (by rw [show (n.cells.getD bJ default).args.length = eL by omega]; exact Mr)).2 AB⟩⟩,Le.mk (.c4 (.c (.cons (aM U om) (.c2 (.c .nil))))) (.c4 (.c (.c .nil)))⟩)
 obtain ⟨Mv,Mw,To⟩:=P2
 refine .region (.vl (Y.qb U U om) (.mv ?_))
 refine .nil (⟨bJ + 1,fX,km,jt,⟨om,om,om,To⟩,om,Le.mk (.c4 (.c (.cons (aM U om) (.c2 (.cons (ak U aY) .nil))))) (.c4 (.c (.c .nil)))⟩)
 refine .exit (.seq (.block ?_))
 have Lp:BI n n.cells.length du bp dF:=by rw [show n.cells.length = bJ by omega]; exact Lm
 have VG:=Lp.us
 refine .sh (Sh.dL (d:=6) (o:=106) U U (aW om) ab) (.sh (Sh.zO (d:=6) (l:=bp) (f:=ij) (g:=ef) Ep U) ?_)
 refine .e8 (fun (g7:List Int) (fH:List Int) (aX:List Int)=>⟨[(1,.ptr 101 0 0 0),(4,.aN 104 1 0 g7.length),(5,.aN 105 1 0 n.cells.length),(6,.fz 1 (bp.map ef)),(12,.aN 112 1 0 aX.length)],[(101,.cells (ae.row n)),(104,.rows 1 (g7.map ah)),(105,.rows 1 (fH.map ah)),(112,.rows 1 (aX.map ah))]⟩) (fun g7 fH aX=>(fH.length = n.cells.length) /\ (∃ done,g7 = gC n n.cells.length ++ done /\ KI n done aX fH)) (fun g7 fH aX=>n.cells.length - g7.length) fe du dF (⟨om,⟨[],by rw [QO,show gZ = n.cells.length by omega,List.append_nil],Lp.ki⟩⟩) (Le.mk (.c (.cons (aM U om) (.c2 (.cons (aM U om) .nil)))) (.c2 (.c (.c .nil)))) (fun g7 fH aX Lq=>?_)
 obtain ⟨wj,hK⟩:=Lq
 refine .seq (.sr (.mv ?_))
 refine .vl (Y.qw (n:=aX.length) a7 U U) (.vl (Y.qq U U) (.nil (.aB U (fun Li=>?_) (fun Li=>?_))))
 obtain ⟨done,mz,vj⟩:=hK
 have q7:=vj.len
 rw [<- mz] at q7
 have qT:=vj.cm (aX.getD 0 0) (List.mem_append.2 (.inr (cg om)))
 have Xy:=qT.1
 have It:=hf.iQ qT.jZ
 have Lr:=It; unfold In ae.cell at Lr
 have yI:∀ x,bC n x -> (bp.getD (((n.cells.getD ((aX.getD 0 0).toNat) default).out).toNat) []).count x = (n.cell x).args.count (n.cell (aX.getD 0 0)).out:=fun x hx=>VG.Xx _ x It ⟨_,qT,rfl⟩ hx
 have QP:∀ x ∈ (bp.getD (((n.cells.getD ((aX.getD 0 0).toNat) default).out).toNat) []),bC n x:=fun x hx=>VG.mem _ x It hx
 have XR:=Lp.ul _ It; unfold ae.cell at XR
 have VF:=Ey hs n.cells.length
 refine .skip (.block (.sr (.mv ?_)))
 refine .vl (Y.qs (m:=0) a7 U U aY om) (.vl (Y.qz bg U (aO (d:=0) ik) U U) (.an (.nil (.sr ?_))))
 refine .mv ?_
 refine .vl (Y.zy (l:=1) (h:=aX.length) a7 U (.some U) (.none _) om om) (.an ?_)
 refine .sh (Sh.IT (d:=12) (o:=112) ((aX.drop 1).map ah) U U ik (C6 ik) ab) (.nil (.sr (.mv ?_)))
 refine .mv ?_
 refine .buildSlice (([aX.getD 0 0]:List Int).map ah) a7 dG U U U U U (aq (s:=1) (f:=ah) (fun _=>U)) U U U ab ?_
 refine .cJ ah (g7 ++ ([aX.getD 0 0]:List Int)) a7 dG U U U U (bh ik) (aV ik) (b8 ik) ik ik ab ab ?_
 refine .an (.nil (.sr ?_))
 refine .mv ?_
 refine .fa bS ?_
 refine .ld fU ?_
 refine .mv ?_
 refine .vl (Y.qr (m:=(aX.getD 0 0).toNat) dU U U om (ao (d:=default) om)) (.fa eg ?_)
 refine .ld bg ?_
 refine .vl (Y.qr (m:=((n.cells.getD ((aX.getD 0 0).toNat) default).out).toNat) ee U U om (ao (d:=[]) om)) (.ld bn ?_)
 refine .vl (Y.qw (n:=(bp.getD (((n.cells.getD ((aX.getD 0 0).toNat) default).out).toNat) []).length) a7 U dY) (.mv ?_)
 refine .nil (.block ?_)
 refine .e8 (fun (dz:Nat) (cz:List Int) (fI:List Int)=>⟨[(1,.ptr 101 0 0 0),(4,.aN 104 1 0 ((g7 ++ ([aX.getD 0 0]:List Int)).length)),(5,.aN 105 1 0 n.cells.length),(6,.fz 1 (bp.map ef)),(12,.aN 112 1 0 fI.length),(140,.fz 1 ((bp.getD (((n.cells.getD ((aX.getD 0 0).toNat) default).out).toNat) []).map ah)),(141,vi (((bp.getD (((n.cells.getD ((aX.getD 0 0).toNat) default).out).toNat) []).length:Nat):Int)),(142,vi dz)],[(101,.cells (ae.row n)),(104,.rows 1 ((g7 ++ ([aX.getD 0 0]:List Int)).map ah)),(105,.rows 1 (cz.map ah)),(112,.rows 1 (fI.map ah))]⟩) (fun dz cz fI=>(cz.length = n.cells.length) /\ ((dz:Int) <= (((bp.getD (((n.cells.getD ((aX.getD 0 0).toNat) default).out).toNat) []).length:Nat):Int)) /\ (KJ n done (aX.getD 0 0) (bp.getD (((n.cells.getD ((aX.getD 0 0).toNat) default).out).toNat) []) dz fI cz)) (fun dz cz fI=>((((bp.getD (((n.cells.getD ((aX.getD 0 0).toNat) default).out).toNat) []).length:Nat):Int) - (dz:Int)).toNat) 0 fH (aX.drop 1) (⟨ik,ik,KJ.init vj om⟩) (Le.mk (.c4 (.cons (aM U ik) (.c2 (.cons (ak U aY) .nil)))) (.c2 (.c (.c .nil)))) (fun dz cz fI Tp=>?_)
 obtain ⟨wj,XS,QQ⟩:=Tp
 refine .sr (.vl (Y.zb U U) (.nil (.seq (.aB U (fun Ls=>?_) (fun Ls=>?_)))))
 refine .skip ?_
 refine .iu (fun (ju:List Int)=>⟨[(1,.ptr 101 0 0 0),(4,.aN 104 1 0 ((g7 ++ ([aX.getD 0 0]:List Int)).length)),(5,.aN 105 1 0 n.cells.length),(6,.fz 1 (bp.map ef)),(12,.aN 112 1 0 ju.length),(140,.fz 1 ((bp.getD (((n.cells.getD ((aX.getD 0 0).toNat) default).out).toNat) []).map ah)),(141,vi (((bp.getD (((n.cells.getD ((aX.getD 0 0).toNat) default).out).toNat) []).length:Nat):Int)),(142,vi dz)],[(101,.cells (ae.row n)),(104,.rows 1 ((g7 ++ ([aX.getD 0 0]:List Int)).map ah)),(105,.rows 1 ((cz.set (((bp.getD (((n.cells.getD ((aX.getD 0 0).toNat) default).out).toNat) []).getD dz 0).toNat) ((cz.getD (((bp.getD (((n.cells.getD ((aX.getD 0 0).toNat) default).out).toNat) []).getD dz 0).toNat) 0) - 1)).map ah)),(112,.rows 1 (ju.map ah))]⟩) (fun ju=>KJ n done (aX.getD 0 0) (bp.getD (((n.cells.getD ((aX.getD 0 0).toNat) default).out).toNat) []) (dz + 1) ju (cz.set ((bp.getD (((n.cells.getD ((aX.getD 0 0).toNat) default).out).toNat) []).getD dz 0).toNat (cz.getD ((bp.getD (((n.cells.getD ((aX.getD 0 0).toNat) default).out).toNat) []).getD dz 0).toNat 0 - 1))) ?_ (fun ju Tq=>?_)
 refine .block (.sr (.vl (Y.qr (m:=dz) a7 U U aY (ao (d:=0) om)) (.ld bg ?_)))
 refine .an (.nil (.sr ?_))
 have RS:=QQ.bound hf hs om yI QP
 have Zy:=(QP _ (cg (l:=(bp.getD (((n.cells.getD ((aX.getD 0 0).toNat) default).out).toNat) [])) (i:=dz) om)).1
 refine .mv ?_
 refine .mv ?_
 refine .vl (Y.qs (m:=((bp.getD (((n.cells.getD ((aX.getD 0 0).toNat) default).out).toNat) []).getD dz 0).toNat) a7 U U om om) (.vl (Y.qz bg U (aO (d:=0) ik) U U) (.vl (Y.wa U U om) (.vl (Y.qs (m:=((bp.getD (((n.cells.getD ((aX.getD 0 0).toNat) default).out).toNat) []).getD dz 0).toNat) a7 U U om om) (.iB ((cz.set (((bp.getD (((n.cells.getD ((aX.getD 0 0).toNat) default).out).toNat) []).getD dz 0).toNat) ((cz.getD (((bp.getD (((n.cells.getD ((aX.getD 0 0).toNat) default).out).toNat) []).getD dz 0).toNat) 0) - 1)).map ah) dT U U U U U U U (aO (d:=0) om) (aH U) (eO U) ?_))))
 refine .nil (.sr (.mv ?_))
 refine .mv ?_
 refine .vl (Y.qs (m:=((bp.getD (((n.cells.getD ((aX.getD 0 0).toNat) default).out).toNat) []).getD dz 0).toNat) a7 U U om om) (.vl (Y.qz bg U (aO (d:=0) ik) U U) (.vl (Y.ql U U) (.nil (.aB U (fun AD=>?_) (fun AD=>?_)))))
 rw [bP,if_pos ⟨rfl,om⟩] at AD
 refine .region (.mv ?_)
 refine .mv ?_
 refine .buildSlice (([(bp.getD (((n.cells.getD ((aX.getD 0 0).toNat) default).out).toNat) []).getD dz 0]:List Int).map ah) a7 dG U U U U U (aq (s:=1) (f:=ah) (fun _=>U)) U U U ab ?_
 refine .cJ ah (fI ++ ([(bp.getD (((n.cells.getD ((aX.getD 0 0).toNat) default).out).toNat) []).getD dz 0]:List Int)) a7 dG U U U U (bh ik) (aV ik) (b8 ik) ik ik ab ab ?_
 refine .an ?_
 refine .nil ⟨fI ++ ([(bp.getD (((n.cells.getD ((aX.getD 0 0).toNat) default).out).toNat) []).getD dz 0]:List Int),(QQ.step hf wj om yI QP).1 AD,Le.mk (.c4 (.cons (aM U om) (.c2 (.c .nil)))) (.c2 (.c (.c .nil)))⟩
 rw [bP,if_pos ⟨rfl,om⟩] at AD
 refine .skip ⟨fI,(QQ.step hf wj om yI QP).2 AD,Le.mk (.c4 (.cons (aM U om) (.c2 (.c .nil)))) (.c2 (.c (.c .nil)))⟩
 refine .region (.vl (Y.qb U U om) (.mv ?_))
 refine .nil (⟨dz + 1,cz.set (((bp.getD (((n.cells.getD ((aX.getD 0 0).toNat) default).out).toNat) []).getD dz 0).toNat) ((cz.getD (((bp.getD (((n.cells.getD ((aX.getD 0 0).toNat) default).out).toNat) []).getD dz 0).toNat) 0) - 1),ju,⟨ik,ik,Tq⟩,om,Le.mk (.c4 (.cons (aM U ik) (.c2 (.cons (ak U aY) .nil)))) (.c2 (.c (.c .nil)))⟩)
 refine .exit (⟨g7 ++ ([aX.getD 0 0]:List Int),cz,fI,⟨om,⟨done ++ [(aX.getD 0 0)],by rw [mz,List.append_assoc],KJ.fin hf vj (cg om) (by rw [show (bp.getD (((n.cells.getD ((aX.getD 0 0).toNat) default).out).toNat) []).length = dz by omega]; exact QQ) yI⟩⟩,by rw [List.length_append]; simp only [List.length_cons,List.length_nil]; omega,Le.mk (.c (.cons (aM U om) (.c2 (.cons (aM U om) .nil)))) (.c2 (.c (.c .nil)))⟩)
 obtain ⟨done,mz,vj⟩:=hK
 have XT:aX = []:=List.eq_nil_of_length_eq_zero om
 subst XT
 refine .exit (.seq (.sr (.mv ?_)))
 refine .vl (Y.qw (n:=g7.length) a7 U U) (.fa bS ?_)
 refine .ld fU ?_
 refine .vl (Y.qw (n:=n.cells.length) dU U dY) (.vl (Y.zb U U) (.nil (.aB U (fun FT=>?_) (fun FT=>?_))))
 refine .sr (.an ?_)
 refine .an ?_
 exact .nil (.sh (Sh.vr (d:=2) 1 U) (.ret (⟨_,_,U,U,([]:List Int),12,.inr (.inr (.inl ⟨hf,KO,vj.IZ (by rw [<- mz]; omega),U,U⟩)),U,U⟩)))
 refine .skip (.sr (.mv ?_))
 refine .an ?_
 refine .sh (Sh.dL (d:=2) (o:=104) U U (aW om) ab) (.an (.nil (.ret ?_)))
 exact ⟨_,_,U,U,g7,0,.inr (.inr (.inr ⟨hf,KO,(vj.ok hf (by rw [<- mz]; omega)).1,by rw [mz]; exact (vj.ok hf (by rw [<- mz]; omega)).2,U⟩)),U,U⟩
open Go Go.AW Go.Proofs
theorem AE{n:ae}(hs:n.Small)(Mn:n.aa.length + n.ins.length <= 17592186044416):aw Try.prog 77 [.agg (ae.row n)] [] [] (fun r o=>r = (vi (jU n)) /\ o = []):=by
 refine aw.of Try.func77 U U U (n:=11) ab (aH U) (.sr (.box 101 U U U U U ab ?_))
 refine .an ?_
 refine .nil (.sr (.vl (Y.za fF U U (aH U) U U) (.rk Oy (uR (n:=n) hs (om)) U (.ai U U .nil) ab ?_)))
 rintro _ ⟨l7,e7,XU,rfl,_⟩
 refine ⟨U,(.oE U ab (.iO U U ab (.vl (Y.qn U U U) (.bX U ab (.sh (Sh.cN (d:=3) (l7.map ah) U iX (cM.map aI)) (.an (.nil (.sr ?_))))))))⟩
 refine .mv ?_
 refine .an (.nil (.ret ?_))
 exact .ri rfl (XU.err)
theorem FX{n:ae}{op out mem:Int}{args:List Int}{num:Nat}(hs:n.Small)(hc:args.length <= 17592186043904){kind:Int}:aw Try.prog 112 [.agg (ae.row n),.agg [vi kind,vi op,vi out,.fz 1 (args.map ah),.v (.int .u64 (num:Int)),vi mem]] [] [] (fun r o=>r = .v (.bool (decide (Shaped n ⟨kind,op,out,args,num,mem⟩))) /\ o = []):=by
 refine aw.of Try.func112 U U U (n:=207) ab (aH U) ?_
 have Iu:=hs.ins; have Iv:=hs.aD; have J5:=hs.streams
 refine .sr (.box 102 U U U U U ab (.box 103 U U U U U ab ?_))
 refine .an (.nil (.sr ?_))
 refine .fa bT ?_
 refine .ld bn ?_
 refine .vl (Y.qw (n:=args.length) a7 U dY) (.an (.nil ?_))
 refine .oD (⟨[(2,.ptr 102 0 0 0),(3,.ptr 103 0 0 0),(5,vi args.length)],[(102,.cells (ae.row n)),(103,.cells [vi kind,vi op,vi out,.fz 1 (args.map ah),.v (.int .u64 (num:Int)),vi mem])]⟩) ((kind ≠ 2 -> kind ≠ 5 -> op = 0)) ?_ (fun xk=>?_)
 refine .sr (.fa ck ?_)
 refine .ld bg ?_
 refine .vl (Y.zj U U) (.mv ?_)
 refine .a8 (d:=14) U (fun Ag=>?_) (fun Ag=>?_)
 refine .gw 14 (Y.qo ck U U) (.gw 14 (Y.qz bg U U U U) (.gw 14 (Y.zj U U) (.pk ?_)))
 refine .mv ?_
 refine .a8 (d:=19) U (fun r7=>?_) (fun r7=>?_)
 refine .gw 19 (Y.qo cL U U) (.gw 19 (Y.qz bg U U U U) (.gw 19 (Y.zj U U) (.pk ?_)))
 refine .nil (.aB U (fun oK=>?_) (fun oK=>?_))
 refine .sr (.an (.nil (.ret ?_)))
 exact .rb rfl (df qE)
 refine .skip ⟨om,Le.mk (.c2 (.c .nil)) (.c (.c .nil))⟩
 refine .gz 19 (.gz 19 (.gz 19 (.pk ?_)))
 exact .nil (.cu U (.skip ⟨om,Le.mk (.c2 (.c .nil)) (.c (.c .nil))⟩))
 refine .gz 14 (.gz 14 (.gz 14 (.pk ?_)))
 refine .mv ?_
 refine .gz 19 (.gz 19 (.gz 19 (.pk ?_)))
 exact .nil (.cu U (.skip ⟨om,Le.mk (.c2 (.c .nil)) (.c (.c .nil))⟩))
 refine .iu (fun (jj:Bool)=>⟨[(2,.ptr 102 0 0 0),(3,.ptr 103 0 0 0),(5,vi args.length),(6,.v (.bool jj))],[(102,.cells (ae.row n)),(103,.cells [vi kind,vi op,vi out,.fz 1 (args.map ah),.v (.int .u64 (num:Int)),vi mem])]⟩) (fun jj=>(jj = true ↔ kind = 6 \/ kind = 7)) ?_ (fun jj Cd=>?_)
 refine .region (.fa ck ?_)
 refine .ld bg ?_
 refine .vl (Y.ql U U) (.mv ?_)
 refine .a8 (d:=27) U (fun yS=>?_) (fun yS=>?_)
 refine .gz 27 (.gz 27 (.gz 27 (.pk ?_)))
 refine .an ?_
 refine .nil ⟨true,by grind,Le.mk (.c2 (.c (.cons (aT U j1) .nil))) (.c (.c .nil))⟩
 refine .gw 27 (Y.qo ck U U) (.gw 27 (Y.qz bg U U U U) (.gw 27 (Y.ql U U) (.pk ?_)))
 refine .an ?_
 refine .nil ⟨decide (kind = 7),by grind,Le.mk (.c2 (.c (.cons (aT U j1) .nil))) (.c (.c .nil))⟩
 refine .iu (fun (kr:Bool)=>⟨[(2,.ptr 102 0 0 0),(3,.ptr 103 0 0 0),(5,vi args.length),(6,.v (.bool jj)),(7,.v (.bool kr))],[(102,.cells (ae.row n)),(103,.cells [vi kind,vi op,vi out,.fz 1 (args.map ah),.v (.int .u64 (num:Int)),vi mem])]⟩) (fun kr=>(kr = true ↔ kind = 9 \/ kind = 10)) ?_ (fun kr yY=>?_)
 refine .region (.fa ck ?_)
 refine .ld bg ?_
 refine .vl (Y.ql U U) (.mv ?_)
 refine .a8 (d:=35) U (fun uz=>?_) (fun uz=>?_)
 refine .gz 35 (.gz 35 (.gz 35 (.pk ?_)))
 refine .an ?_
 refine .nil ⟨true,by grind,Le.mk (.c4 (.cons (aT U j1) .nil)) (.c (.c .nil))⟩
 refine .gw 35 (Y.qo ck U U) (.gw 35 (Y.qz bg U U U U) (.gw 35 (Y.ql U U) (.pk ?_)))
 refine .an ?_
 refine .nil ⟨decide (kind = 10),by grind,Le.mk (.c4 (.cons (aT U j1) .nil)) (.c (.c .nil))⟩
 refine .oD (⟨[(2,.ptr 102 0 0 0),(3,.ptr 103 0 0 0),(5,vi args.length)],[(102,.cells (ae.row n)),(103,.cells [vi kind,vi op,vi out,.fz 1 (args.map ah),.v (.int .u64 (num:Int)),vi mem])]⟩) (((kind ≠ 6 -> kind ≠ 7 -> kind ≠ 9 -> kind ≠ 10 -> mem = 0) /\ (kind = 6 \/ kind = 7 -> In mem n.aD.length) /\ (kind = 9 \/ kind = 10 -> In mem n.streams.length))) ?_ (fun Iz=>?_)
 refine .sr (.mv ?_)
 refine .vl (Y.zl U) (.mv ?_)
 refine .split (d:=42) U (fun xm=>?_) (fun xm=>?_)
 replace xm:jj = false:=by simpa using xm
 have P5:=Cd; rw [xm] at P5; simp at P5
 refine .gw 42 (Y.zf U U) (.gw 42 (Y.zl U) (.pk ?_))
 refine .mv ?_
 refine .split (d:=46) U (fun I2=>?_) (fun I2=>?_)
 replace I2:kr = false:=by simpa using I2
 have P6:=yY; rw [I2] at P6; simp at P6
 refine .gw 46 (Y.qo bY U U) (.gw 46 (Y.qz bg U U U U) (.gw 46 (Y.zj U U) (.pk ?_)))
 refine .mv ?_
 refine .a8 (d:=51) U (fun Tr=>?_) (fun Tr=>?_)
 refine .gz 51 (.gz 51 (.gz 53 (.gz 53 (.gz 53 (.gz 53 (.gz 53 (.gz 53 (.gz 53 (.gz 51 (.pk ?_))))))))))
 refine .mv ?_
 refine .gz 63 (.gz 63 (.gz 65 (.gz 65 (.gz 65 (.gz 65 (.gz 65 (.gz 65 (.gz 65 (.gz 63 (.pk ?_))))))))))
 refine .nil (.aQ U (.sr (.an (.nil (.ret ?_)))))
 exact .rb rfl (df qE)
 refine .gw 51 (Y.zf U U) (.gw 51 (Y.zf U U) (.split (d:=53) U (fun Ar=>?_) (fun Ar=>?_)))
 have yx:=Cd; rw [Ar] at yx; simp at yx
 refine .gw 53 (Y.qo bY U U) (.gw 53 (Y.qz bg U U U U) (.gw 53 (Y.qo eK U U) (.gw 53 (Y.qz ln U U U U) (.gw 53 (Y.qw (n:=n.aD.length) jE U dY) (.aC (d:=53) U ab U ?_)))))
 refine .aR kZ (cW (i:=mem) (n:=(n.aD.length:Int))) U (.ai U U (.ai U U .nil)) ab U (.gw 53 (Y.zl U) (.gw 51 (Y.zm U U U) (.pk ?_)))
 refine .mv ?_
 refine .eR (d:=63) U (fun yU=>?_) (fun yU=>?_)
 refine .gz 63 (.gz 63 (.gz 65 (.gz 65 (.gz 65 (.gz 65 (.gz 65 (.gz 65 (.gz 65 (.gz 63 (.pk ?_))))))))))
 refine .nil (.aQ U (.sr (.an (.nil (.ret ?_)))))
 exact .rb rfl (df qE)
 refine .gw 63 (Y.zf U U) (.gw 63 (Y.zf U U) (.split (d:=65) U (fun uS=>?_) (fun uS=>?_)))
 have oS:=yY; rw [uS] at oS; simp at oS
 refine .gw 65 (Y.qo bY U U) (.gw 65 (Y.qz bg U U U U) (.gw 65 (Y.qo cK U U) (.gw 65 (Y.qz gy U U U U) (.gw 65 (Y.qw (n:=n.streams.length) fu U dY) (.aC (d:=65) U ab U ?_)))))
 refine .aR kZ (cW (i:=mem) (n:=(n.streams.length:Int))) U (.ai U U (.ai U U .nil)) ab U (.gw 65 (Y.zl U) (.gw 63 (Y.zm U U U) (.pk ?_)))
 refine .nil (.dX U (fun yw=>?_) (fun yw=>?_))
 refine .sr (.an (.nil (.ret ?_)))
 exact .rb rfl (df qE)
 refine .skip ⟨by grind,Le.mk (.c2 (.c .nil)) (.c (.c .nil))⟩
 have oS:=yY; rw [uS] at oS; simp at oS
 refine .gz 65 (.gz 65 (.gz 65 (.gz 65 (.gz 65 (.gz 65 (.gz 65 (.gw 63 (Y.zm U U U) (.pk ?_))))))))
 exact .nil (.cu U (.skip ⟨by grind,Le.mk (.c2 (.c .nil)) (.c (.c .nil))⟩))
 have yx:=Cd; rw [Ar] at yx; simp at yx
 refine .gz 53 (.gz 53 (.gz 53 (.gz 53 (.gz 53 (.gz 53 (.gz 53 (.gw 51 (Y.zm U U U) (.pk ?_))))))))
 refine .mv ?_
 refine .gw 63 (Y.zf U U) (.gw 63 (Y.zf U U) (.split (d:=65) U (fun uS=>?_) (fun uS=>?_)))
 have oS:=yY; rw [uS] at oS; simp at oS
 refine .gw 65 (Y.qo bY U U) (.gw 65 (Y.qz bg U U U U) (.gw 65 (Y.qo cK U U) (.gw 65 (Y.qz gy U U U U) (.gw 65 (Y.qw (n:=n.streams.length) fu U dY) (.aC (d:=65) U ab U ?_)))))
 refine .aR kZ (cW (i:=mem) (n:=(n.streams.length:Int))) U (.ai U U (.ai U U .nil)) ab U (.gw 65 (Y.zl U) (.gw 63 (Y.zm U U U) (.pk ?_)))
 refine .nil (.dX U (fun yw=>?_) (fun yw=>?_))
 refine .sr (.an (.nil (.ret ?_)))
 exact .rb rfl (df qE)
 refine .skip ⟨by grind,Le.mk (.c2 (.c .nil)) (.c (.c .nil))⟩
 have oS:=yY; rw [uS] at oS; simp at oS
 refine .gz 65 (.gz 65 (.gz 65 (.gz 65 (.gz 65 (.gz 65 (.gz 65 (.gw 63 (Y.zm U U U) (.pk ?_))))))))
 exact .nil (.cu U (.skip ⟨by grind,Le.mk (.c2 (.c .nil)) (.c (.c .nil))⟩))
 replace I2:kr = true:=by simpa using I2
 have P6:=yY; rw [I2] at P6; simp at P6
 refine .gz 46 (.gz 46 (.gz 46 (.pk ?_)))
 refine .mv ?_
 refine .gw 51 (Y.zf U U) (.gw 51 (Y.zf U U) (.split (d:=53) U (fun Ar=>?_) (fun Ar=>?_)))
 have yx:=Cd; rw [Ar] at yx; simp at yx
 refine .gw 53 (Y.qo bY U U) (.gw 53 (Y.qz bg U U U U) (.gw 53 (Y.qo eK U U) (.gw 53 (Y.qz ln U U U U) (.gw 53 (Y.qw (n:=n.aD.length) jE U dY) (.aC (d:=53) U ab U ?_)))))
 refine .aR kZ (cW (i:=mem) (n:=(n.aD.length:Int))) U (.ai U U (.ai U U .nil)) ab U (.gw 53 (Y.zl U) (.gw 51 (Y.zm U U U) (.pk ?_)))
 refine .mv ?_
 refine .eR (d:=63) U (fun yU=>?_) (fun yU=>?_)
 refine .gz 63 (.gz 63 (.gz 65 (.gz 65 (.gz 65 (.gz 65 (.gz 65 (.gz 65 (.gz 65 (.gz 63 (.pk ?_))))))))))
 refine .nil (.aQ U (.sr (.an (.nil (.ret ?_)))))
 exact .rb rfl (df qE)
 refine .gw 63 (Y.zf U U) (.gw 63 (Y.zf U U) (.split (d:=65) U (fun uS=>?_) (fun uS=>?_)))
 have oS:=yY; rw [uS] at oS; simp at oS
 refine .gw 65 (Y.qo bY U U) (.gw 65 (Y.qz bg U U U U) (.gw 65 (Y.qo cK U U) (.gw 65 (Y.qz gy U U U U) (.gw 65 (Y.qw (n:=n.streams.length) fu U dY) (.aC (d:=65) U ab U ?_)))))
 refine .aR kZ (cW (i:=mem) (n:=(n.streams.length:Int))) U (.ai U U (.ai U U .nil)) ab U (.gw 65 (Y.zl U) (.gw 63 (Y.zm U U U) (.pk ?_)))
 refine .nil (.dX U (fun yw=>?_) (fun yw=>?_))
 refine .sr (.an (.nil (.ret ?_)))
 exact .rb rfl (df qE)
 refine .skip ⟨by grind,Le.mk (.c2 (.c .nil)) (.c (.c .nil))⟩
 have oS:=yY; rw [uS] at oS; simp at oS
 refine .gz 65 (.gz 65 (.gz 65 (.gz 65 (.gz 65 (.gz 65 (.gz 65 (.gw 63 (Y.zm U U U) (.pk ?_))))))))
 exact .nil (.cu U (.skip ⟨by grind,Le.mk (.c2 (.c .nil)) (.c (.c .nil))⟩))
 have yx:=Cd; rw [Ar] at yx; simp at yx
 refine .gz 53 (.gz 53 (.gz 53 (.gz 53 (.gz 53 (.gz 53 (.gz 53 (.gw 51 (Y.zm U U U) (.pk ?_))))))))
 refine .mv ?_
 refine .gw 63 (Y.zf U U) (.gw 63 (Y.zf U U) (.split (d:=65) U (fun uS=>?_) (fun uS=>?_)))
 have oS:=yY; rw [uS] at oS; simp at oS
 refine .gw 65 (Y.qo bY U U) (.gw 65 (Y.qz bg U U U U) (.gw 65 (Y.qo cK U U) (.gw 65 (Y.qz gy U U U U) (.gw 65 (Y.qw (n:=n.streams.length) fu U dY) (.aC (d:=65) U ab U ?_)))))
 refine .aR kZ (cW (i:=mem) (n:=(n.streams.length:Int))) U (.ai U U (.ai U U .nil)) ab U (.gw 65 (Y.zl U) (.gw 63 (Y.zm U U U) (.pk ?_)))
 refine .nil (.dX U (fun yw=>?_) (fun yw=>?_))
 refine .sr (.an (.nil (.ret ?_)))
 exact .rb rfl (df qE)
 refine .skip ⟨by grind,Le.mk (.c2 (.c .nil)) (.c (.c .nil))⟩
 have oS:=yY; rw [uS] at oS; simp at oS
 refine .gz 65 (.gz 65 (.gz 65 (.gz 65 (.gz 65 (.gz 65 (.gz 65 (.gw 63 (Y.zm U U U) (.pk ?_))))))))
 exact .nil (.cu U (.skip ⟨by grind,Le.mk (.c2 (.c .nil)) (.c (.c .nil))⟩))
 replace xm:jj = true:=by simpa using xm
 have P5:=Cd; rw [xm] at P5; simp at P5
 refine .gz 42 (.gz 42 (.pk ?_))
 refine .mv ?_
 refine .gz 46 (.gz 46 (.gz 46 (.pk ?_)))
 refine .mv ?_
 refine .gw 51 (Y.zf U U) (.gw 51 (Y.zf U U) (.split (d:=53) U (fun Ar=>?_) (fun Ar=>?_)))
 have yx:=Cd; rw [Ar] at yx; simp at yx
 refine .gw 53 (Y.qo bY U U) (.gw 53 (Y.qz bg U U U U) (.gw 53 (Y.qo eK U U) (.gw 53 (Y.qz ln U U U U) (.gw 53 (Y.qw (n:=n.aD.length) jE U dY) (.aC (d:=53) U ab U ?_)))))
 refine .aR kZ (cW (i:=mem) (n:=(n.aD.length:Int))) U (.ai U U (.ai U U .nil)) ab U (.gw 53 (Y.zl U) (.gw 51 (Y.zm U U U) (.pk ?_)))
 refine .mv ?_
 refine .eR (d:=63) U (fun yU=>?_) (fun yU=>?_)
 refine .gz 63 (.gz 63 (.gz 65 (.gz 65 (.gz 65 (.gz 65 (.gz 65 (.gz 65 (.gz 65 (.gz 63 (.pk ?_))))))))))
 refine .nil (.aQ U (.sr (.an (.nil (.ret ?_)))))
 exact .rb rfl (df qE)
 refine .gw 63 (Y.zf U U) (.gw 63 (Y.zf U U) (.split (d:=65) U (fun uS=>?_) (fun uS=>?_)))
 have oS:=yY; rw [uS] at oS; simp at oS
 refine .gw 65 (Y.qo bY U U) (.gw 65 (Y.qz bg U U U U) (.gw 65 (Y.qo cK U U) (.gw 65 (Y.qz gy U U U U) (.gw 65 (Y.qw (n:=n.streams.length) fu U dY) (.aC (d:=65) U ab U ?_)))))
 refine .aR kZ (cW (i:=mem) (n:=(n.streams.length:Int))) U (.ai U U (.ai U U .nil)) ab U (.gw 65 (Y.zl U) (.gw 63 (Y.zm U U U) (.pk ?_)))
 refine .nil (.dX U (fun yw=>?_) (fun yw=>?_))
 refine .sr (.an (.nil (.ret ?_)))
 exact .rb rfl (df qE)
 refine .skip ⟨by grind,Le.mk (.c2 (.c .nil)) (.c (.c .nil))⟩
 have oS:=yY; rw [uS] at oS; simp at oS
 refine .gz 65 (.gz 65 (.gz 65 (.gz 65 (.gz 65 (.gz 65 (.gz 65 (.gw 63 (Y.zm U U U) (.pk ?_))))))))
 exact .nil (.cu U (.skip ⟨by grind,Le.mk (.c2 (.c .nil)) (.c (.c .nil))⟩))
 have yx:=Cd; rw [Ar] at yx; simp at yx
 refine .gz 53 (.gz 53 (.gz 53 (.gz 53 (.gz 53 (.gz 53 (.gz 53 (.gw 51 (Y.zm U U U) (.pk ?_))))))))
 refine .mv ?_
 refine .gw 63 (Y.zf U U) (.gw 63 (Y.zf U U) (.split (d:=65) U (fun uS=>?_) (fun uS=>?_)))
 have oS:=yY; rw [uS] at oS; simp at oS
 refine .gw 65 (Y.qo bY U U) (.gw 65 (Y.qz bg U U U U) (.gw 65 (Y.qo cK U U) (.gw 65 (Y.qz gy U U U U) (.gw 65 (Y.qw (n:=n.streams.length) fu U dY) (.aC (d:=65) U ab U ?_)))))
 refine .aR kZ (cW (i:=mem) (n:=(n.streams.length:Int))) U (.ai U U (.ai U U .nil)) ab U (.gw 65 (Y.zl U) (.gw 63 (Y.zm U U U) (.pk ?_)))
 refine .nil (.dX U (fun yw=>?_) (fun yw=>?_))
 refine .sr (.an (.nil (.ret ?_)))
 exact .rb rfl (df qE)
 refine .skip ⟨by grind,Le.mk (.c2 (.c .nil)) (.c (.c .nil))⟩
 have oS:=yY; rw [uS] at oS; simp at oS
 refine .gz 65 (.gz 65 (.gz 65 (.gz 65 (.gz 65 (.gz 65 (.gz 65 (.gw 63 (Y.zm U U U) (.pk ?_))))))))
 exact .nil (.cu U (.skip ⟨by grind,Le.mk (.c2 (.c .nil)) (.c (.c .nil))⟩))
 refine .oD (⟨[(2,.ptr 102 0 0 0),(3,.ptr 103 0 0 0),(5,vi args.length)],[(102,.cells (ae.row n)),(103,.cells [vi kind,vi op,vi out,.fz 1 (args.map ah),.v (.int .u64 (num:Int)),vi mem])]⟩) ((kind ≠ 1 -> kind ≠ 4 -> kind ≠ 5 -> kind ≠ 8 -> num = 0)) ?_ (fun XV=>?_)
 refine .sr (.fa ck ?_)
 refine .ld bg ?_
 refine .vl (Y.zj U U) (.mv ?_)
 refine .a8 (d:=78) U (fun FN=>?_) (fun FN=>?_)
 refine .gw 78 (Y.qo ck U U) (.gw 78 (Y.qz bg U U U U) (.gw 78 (Y.zj U U) (.pk ?_)))
 refine .mv ?_
 refine .a8 (d:=83) U (fun Ts=>?_) (fun Ts=>?_)
 refine .gw 83 (Y.qo ck U U) (.gw 83 (Y.qz bg U U U U) (.gw 83 (Y.zj U U) (.pk ?_)))
 refine .mv ?_
 refine .a8 (d:=88) U (fun oh=>?_) (fun oh=>?_)
 refine .gw 88 (Y.qo ck U U) (.gw 88 (Y.qz bg U U U U) (.gw 88 (Y.zj U U) (.pk ?_)))
 refine .mv ?_
 refine .a8 (d:=93) U (fun yW=>?_) (fun yW=>?_)
 refine .gw 93 (Y.qo dE U U) (.gw 93 (Y.qz fV U U U U) (.gw 93 (Y.zj U U) (.pk ?_)))
 refine .nil (.aB U (fun Tt=>?_) (fun Tt=>?_))
 refine .sr (.an (.nil (.ret ?_)))
 exact .rb rfl (df qE)
 refine .skip ⟨om,Le.mk (.c2 (.c .nil)) (.c (.c .nil))⟩
 refine .gz 93 (.gz 93 (.gz 93 (.pk ?_)))
 exact .nil (.cu U (.skip ⟨om,Le.mk (.c2 (.c .nil)) (.c (.c .nil))⟩))
 refine .gz 88 (.gz 88 (.gz 88 (.pk ?_)))
 refine .mv ?_
 refine .gz 93 (.gz 93 (.gz 93 (.pk ?_)))
 exact .nil (.cu U (.skip ⟨om,Le.mk (.c2 (.c .nil)) (.c (.c .nil))⟩))
 refine .gz 83 (.gz 83 (.gz 83 (.pk ?_)))
 refine .mv ?_
 refine .gz 88 (.gz 88 (.gz 88 (.pk ?_)))
 refine .mv ?_
 refine .gz 93 (.gz 93 (.gz 93 (.pk ?_)))
 exact .nil (.cu U (.skip ⟨om,Le.mk (.c2 (.c .nil)) (.c (.c .nil))⟩))
 refine .gz 78 (.gz 78 (.gz 78 (.pk ?_)))
 refine .mv ?_
 refine .gz 83 (.gz 83 (.gz 83 (.pk ?_)))
 refine .mv ?_
 refine .gz 88 (.gz 88 (.gz 88 (.pk ?_)))
 refine .mv ?_
 refine .gz 93 (.gz 93 (.gz 93 (.pk ?_)))
 exact .nil (.cu U (.skip ⟨om,Le.mk (.c2 (.c .nil)) (.c (.c .nil))⟩))
 refine .seq (.sr (.fa ck ?_))
 refine .ld bg ?_
 refine .nil (.block (.seq (.sr (.vl (Y.ql U U) (.an (.nil ?_))))))
 refine .bt U (fun FY=>?_) (fun FY=>?_)
 refine .skip (.aQ U (.sr (.mv ?_)))
 refine .vl (Y.ql U U) (.an (.nil (.ret ?_)))
 exact .rb rfl (dd yQ)
 refine .region (.vl (Y.ql U U) (.an (.nil ?_)))
 refine .bt U (fun FY=>?_) (fun FY=>?_)
 refine .sr (.mv ?_)
 refine .vl (Y.ql U U) (.an (.nil (.ret ?_)))
 exact .rb rfl (dd yQ)
 refine .sr (.vl (Y.ql U U) (.an (.nil ?_)))
 refine .aB U (fun Lt=>?_) (fun Lt=>?_)
 refine .sr (.fa cL ?_)
 refine .ld bg ?_
 refine .aR wF (g5 (w:=op)) U (.ai U U .nil) ab U ?_
 refine .mv ?_
 refine .a8 (d:=110) U (fun Aw=>?_) (fun Aw=>?_)
 refine .gw 110 (Y.zf U U) (.gw 110 (Y.ql U U) (.pk ?_))
 refine .mv ?_
 refine .a8 (d:=114) U (fun AB=>?_) (fun AB=>?_)
 refine .gz 114 (.gz 114 (.gz 114 (.gz 114 (.gz 118 (.gz 118 (.gz 114 (.pk ?_)))))))
 refine .mv ?_
 refine .gz 123 (.gz 123 (.gz 123 (.gz 123 (.gz 127 (.gz 127 (.gz 127 (.gz 127 (.gz 123 (.gz 123 (.gz 133 (.gz 133 (.gz 133 (.gz 123 (.gz 123 (.gz 138 (.gz 138 (.gz 123 (.pk ?_))))))))))))))))))
 refine .an (.nil (.ret ?_))
 exact .rb rfl (dt yQ)
 refine .gw 114 (Y.qo cL U U) (.gw 114 (Y.qz bg U U U U) (.gw 114 (Y.ql U U) (.gw 114 (Y.zf U U) (.a8 (d:=118) U (fun Lu=>?_) (fun Lu=>?_)))))
 refine .gw 118 (Y.zf U U) (.gw 118 (Y.ql U U) (.gw 114 (Y.zm U U U) (.pk ?_)))
 refine .mv ?_
 refine .a8 (d:=123) U (fun wX=>?_) (fun wX=>?_)
 refine .gz 123 (.gz 123 (.gz 123 (.gz 123 (.gz 127 (.gz 127 (.gz 127 (.gz 127 (.gz 123 (.gz 123 (.gz 133 (.gz 133 (.gz 133 (.gz 123 (.gz 123 (.gz 138 (.gz 138 (.gz 123 (.pk ?_))))))))))))))))))
 refine .an (.nil (.ret ?_))
 exact .rb rfl (dt yQ)
 refine .gw 123 (Y.qo cL U U) (.gw 123 (Y.qz bg U U U U) (.aC (d:=123) U ab U ?_))
 refine .aR Hv (nI (w:=op)) U (.ai U U .nil) ab U (.gw 123 (Y.zf U U) (.a8 (d:=127) U (fun AF=>?_) (fun AF=>?_)))
 refine .gw 127 (Y.qo cL U U) (.gw 127 (Y.qz bg U U U U) (.aC (d:=127) U ab U ?_))
 refine .aR wF (g5 (w:=op)) U (.ai U U .nil) ab U (.gw 127 (Y.zl U) (.gw 123 (Y.zm U U U) (.gw 123 (Y.zf U U) (.eR (d:=133) U (fun uQ=>?_) (fun uQ=>?_)))))
 refine .gw 133 (Y.qo cL U U) (.gw 133 (Y.qz bg U U U U) (.gw 133 (Y.zj U U) (.gw 123 (Y.zm U U U) (.gw 123 (Y.zf U U) (.a8 (d:=138) U (fun AG=>?_) (fun AG=>?_))))))
 refine .gw 138 (Y.zf U U) (.gw 138 (Y.ql U U) (.gw 123 (Y.zm U U U) (.pk ?_)))
 refine .an (.nil (.ret ?_))
 exact .rb rfl (dd yQ)
 refine .gz 138 (.gz 138 (.gw 123 (Y.zm U U U) (.pk ?_)))
 refine .an (.nil (.ret ?_))
 exact .rb rfl (df qE)
 refine .gz 133 (.gz 133 (.gz 133 (.gw 123 (Y.zm U U U) (.gw 123 (Y.zf U U) (.gz 138 (.gz 138 (.gw 123 (Y.zm U U U) (.pk ?_))))))))
 refine .an (.nil (.ret ?_))
 exact .rb rfl (df qE)
 refine .gz 127 (.gz 127 (.gz 127 (.gz 127 (.gw 123 (Y.zm U U U) (.gw 123 (Y.zf U U) (.gz 133 (.gz 133 (.gz 133 (.gw 123 (Y.zm U U U) (.gw 123 (Y.zf U U) (.gz 138 (.gz 138 (.gw 123 (Y.zm U U U) (.pk ?_))))))))))))))
 refine .an (.nil (.ret ?_))
 exact .rb rfl (df qE)
 refine .gz 118 (.gz 118 (.gw 114 (Y.zm U U U) (.pk ?_)))
 refine .mv ?_
 refine .gw 123 (Y.qo cL U U) (.gw 123 (Y.qz bg U U U U) (.aC (d:=123) U ab U ?_))
 refine .aR Hv (nI (w:=op)) U (.ai U U .nil) ab U (.gw 123 (Y.zf U U) (.a8 (d:=127) U (fun AF=>?_) (fun AF=>?_)))
 refine .gw 127 (Y.qo cL U U) (.gw 127 (Y.qz bg U U U U) (.aC (d:=127) U ab U ?_))
 refine .aR wF (g5 (w:=op)) U (.ai U U .nil) ab U (.gw 127 (Y.zl U) (.gw 123 (Y.zm U U U) (.gw 123 (Y.zf U U) (.eR (d:=133) U (fun uQ=>?_) (fun uQ=>?_)))))
 refine .gw 133 (Y.qo cL U U) (.gw 133 (Y.qz bg U U U U) (.gw 133 (Y.zj U U) (.gw 123 (Y.zm U U U) (.gw 123 (Y.zf U U) (.a8 (d:=138) U (fun AG=>?_) (fun AG=>?_))))))
 refine .gw 138 (Y.zf U U) (.gw 138 (Y.ql U U) (.gw 123 (Y.zm U U U) (.pk ?_)))
 refine .an (.nil (.ret ?_))
 exact .rb rfl (dd yQ)
 refine .gz 138 (.gz 138 (.gw 123 (Y.zm U U U) (.pk ?_)))
 refine .an (.nil (.ret ?_))
 exact .rb rfl (df qE)
 refine .gz 133 (.gz 133 (.gz 133 (.gw 123 (Y.zm U U U) (.gw 123 (Y.zf U U) (.gz 138 (.gz 138 (.gw 123 (Y.zm U U U) (.pk ?_))))))))
 refine .an (.nil (.ret ?_))
 exact .rb rfl (df qE)
 refine .gz 127 (.gz 127 (.gz 127 (.gz 127 (.gw 123 (Y.zm U U U) (.gw 123 (Y.zf U U) (.gz 133 (.gz 133 (.gz 133 (.gw 123 (Y.zm U U U) (.gw 123 (Y.zf U U) (.gz 138 (.gz 138 (.gw 123 (Y.zm U U U) (.pk ?_))))))))))))))
 refine .an (.nil (.ret ?_))
 exact .rb rfl (df qE)
 refine .gz 110 (.gz 110 (.pk ?_))
 refine .mv ?_
 refine .gw 114 (Y.qo cL U U) (.gw 114 (Y.qz bg U U U U) (.gw 114 (Y.ql U U) (.gw 114 (Y.zf U U) (.a8 (d:=118) U (fun Lu=>?_) (fun Lu=>?_)))))
 refine .gw 118 (Y.zf U U) (.gw 118 (Y.ql U U) (.gw 114 (Y.zm U U U) (.pk ?_)))
 refine .mv ?_
 refine .a8 (d:=123) U (fun wX=>?_) (fun wX=>?_)
 refine .gz 123 (.gz 123 (.gz 123 (.gz 123 (.gz 127 (.gz 127 (.gz 127 (.gz 127 (.gz 123 (.gz 123 (.gz 133 (.gz 133 (.gz 133 (.gz 123 (.gz 123 (.gz 138 (.gz 138 (.gz 123 (.pk ?_))))))))))))))))))
 refine .an (.nil (.ret ?_))
 exact .rb rfl (dt yQ)
 refine .gw 123 (Y.qo cL U U) (.gw 123 (Y.qz bg U U U U) (.aC (d:=123) U ab U ?_))
 refine .aR Hv (nI (w:=op)) U (.ai U U .nil) ab U (.gw 123 (Y.zf U U) (.a8 (d:=127) U (fun AF=>?_) (fun AF=>?_)))
 refine .gw 127 (Y.qo cL U U) (.gw 127 (Y.qz bg U U U U) (.aC (d:=127) U ab U ?_))
 refine .aR wF (g5 (w:=op)) U (.ai U U .nil) ab U (.gw 127 (Y.zl U) (.gw 123 (Y.zm U U U) (.gw 123 (Y.zf U U) (.eR (d:=133) U (fun uQ=>?_) (fun uQ=>?_)))))
 refine .gw 133 (Y.qo cL U U) (.gw 133 (Y.qz bg U U U U) (.gw 133 (Y.zj U U) (.gw 123 (Y.zm U U U) (.gw 123 (Y.zf U U) (.a8 (d:=138) U (fun AG=>?_) (fun AG=>?_))))))
 refine .gw 138 (Y.zf U U) (.gw 138 (Y.ql U U) (.gw 123 (Y.zm U U U) (.pk ?_)))
 refine .an (.nil (.ret ?_))
 exact .rb rfl (dd yQ)
 refine .gz 138 (.gz 138 (.gw 123 (Y.zm U U U) (.pk ?_)))
 refine .an (.nil (.ret ?_))
 exact .rb rfl (df qE)
 refine .gz 133 (.gz 133 (.gz 133 (.gw 123 (Y.zm U U U) (.gw 123 (Y.zf U U) (.gz 138 (.gz 138 (.gw 123 (Y.zm U U U) (.pk ?_))))))))
 refine .an (.nil (.ret ?_))
 exact .rb rfl (df qE)
 refine .gz 127 (.gz 127 (.gz 127 (.gz 127 (.gw 123 (Y.zm U U U) (.gw 123 (Y.zf U U) (.gz 133 (.gz 133 (.gz 133 (.gw 123 (Y.zm U U U) (.gw 123 (Y.zf U U) (.gz 138 (.gz 138 (.gw 123 (Y.zm U U U) (.pk ?_))))))))))))))
 refine .an (.nil (.ret ?_))
 exact .rb rfl (df qE)
 refine .gz 118 (.gz 118 (.gw 114 (Y.zm U U U) (.pk ?_)))
 refine .mv ?_
 refine .gw 123 (Y.qo cL U U) (.gw 123 (Y.qz bg U U U U) (.aC (d:=123) U ab U ?_))
 refine .aR Hv (nI (w:=op)) U (.ai U U .nil) ab U (.gw 123 (Y.zf U U) (.a8 (d:=127) U (fun AF=>?_) (fun AF=>?_)))
 refine .gw 127 (Y.qo cL U U) (.gw 127 (Y.qz bg U U U U) (.aC (d:=127) U ab U ?_))
 refine .aR wF (g5 (w:=op)) U (.ai U U .nil) ab U (.gw 127 (Y.zl U) (.gw 123 (Y.zm U U U) (.gw 123 (Y.zf U U) (.eR (d:=133) U (fun uQ=>?_) (fun uQ=>?_)))))
 refine .gw 133 (Y.qo cL U U) (.gw 133 (Y.qz bg U U U U) (.gw 133 (Y.zj U U) (.gw 123 (Y.zm U U U) (.gw 123 (Y.zf U U) (.a8 (d:=138) U (fun AG=>?_) (fun AG=>?_))))))
 refine .gw 138 (Y.zf U U) (.gw 138 (Y.ql U U) (.gw 123 (Y.zm U U U) (.pk ?_)))
 refine .an (.nil (.ret ?_))
 exact .rb rfl (dd yQ)
 refine .gz 138 (.gz 138 (.gw 123 (Y.zm U U U) (.pk ?_)))
 refine .an (.nil (.ret ?_))
 exact .rb rfl (df qE)
 refine .gz 133 (.gz 133 (.gz 133 (.gw 123 (Y.zm U U U) (.gw 123 (Y.zf U U) (.gz 138 (.gz 138 (.gw 123 (Y.zm U U U) (.pk ?_))))))))
 refine .an (.nil (.ret ?_))
 exact .rb rfl (df qE)
 refine .gz 127 (.gz 127 (.gz 127 (.gz 127 (.gw 123 (Y.zm U U U) (.gw 123 (Y.zf U U) (.gz 133 (.gz 133 (.gz 133 (.gw 123 (Y.zm U U U) (.gw 123 (Y.zf U U) (.gz 138 (.gz 138 (.gw 123 (Y.zm U U U) (.pk ?_))))))))))))))
 refine .an (.nil (.ret ?_))
 exact .rb rfl (df qE)
 refine .sr (.vl (Y.ql U U) (.an (.nil ?_)))
 refine .aB U (fun Ls=>?_) (fun Ls=>?_)
 refine .sr (.mv ?_)
 refine .vl (Y.qp U U) (.mv ?_)
 refine .a8 (d:=147) U (fun Tu=>?_) (fun Tu=>?_)
 refine .gw 147 (Y.zf U U) (.gw 147 (Y.zr U U om) (.gw 147 (Y.ql U U) (.pk ?_)))
 refine .an (.nil (.ret ?_))
 exact .rb rfl (dd yQ)
 refine .gz 147 (.gz 147 (.gz 147 (.pk ?_)))
 refine .an (.nil (.ret ?_))
 exact .rb rfl (df qE)
 refine .seq (.sr (.vl (Y.ql U U) (.an (.nil ?_))))
 refine .bt U (fun Lv=>?_) (fun Lv=>?_)
 refine .skip (.aQ U (.sr (.mv ?_)))
 refine .vl (Y.ql U U) (.an (.nil (.ret ?_)))
 exact .rb rfl (dd yQ)
 refine .region (.vl (Y.ql U U) (.an (.nil ?_)))
 refine .bt U (fun Lv=>?_) (fun Lv=>?_)
 refine .sr (.mv ?_)
 refine .vl (Y.ql U U) (.an (.nil (.ret ?_)))
 exact .rb rfl (dd yQ)
 refine .sr (.vl (Y.ql U U) (.an (.nil ?_)))
 refine .aB U (fun wV=>?_) (fun wV=>?_)
 refine .sr (.fa cL ?_)
 refine .ld bg ?_
 refine .aR Oz (nY (w:=op)) U (.ai U U .nil) ab U ?_
 refine .mv ?_
 refine .a8 (d:=162) U (fun Lw=>?_) (fun Lw=>?_)
 refine .gw 162 (Y.zf U U) (.gw 162 (Y.ql U U) (.pk ?_))
 refine .mv ?_
 refine .a8 (d:=166) U (fun Ix=>?_) (fun Ix=>?_)
 refine .gw 166 (Y.qo dE U U) (.gw 166 (Y.qz fV U U U U) (.gw 166 (Y.qp U U) (.pk ?_)))
 refine .mv ?_
 refine .a8 (d:=171) U (fun Tv=>?_) (fun Tv=>?_)
 refine .gw 171 (Y.qo dE U U) (.gw 171 (Y.qz fV U U U U) (.gw 171 (Y.qy U U) (.pk ?_)))
 refine .an (.nil (.ret ?_))
 exact .rb rfl (dd yQ)
 refine .gz 171 (.gz 171 (.gz 171 (.pk ?_)))
 refine .an (.nil (.ret ?_))
 exact .rb rfl (df qE)
 refine .gz 166 (.gz 166 (.gz 166 (.pk ?_)))
 refine .mv ?_
 refine .gz 171 (.gz 171 (.gz 171 (.pk ?_)))
 refine .an (.nil (.ret ?_))
 exact .rb rfl (df qE)
 refine .gz 162 (.gz 162 (.pk ?_))
 refine .mv ?_
 refine .gz 166 (.gz 166 (.gz 166 (.pk ?_)))
 refine .mv ?_
 refine .gz 171 (.gz 171 (.gz 171 (.pk ?_)))
 refine .an (.nil (.ret ?_))
 exact .rb rfl (df qE)
 refine .sr (.vl (Y.ql U U) (.an (.nil ?_)))
 refine .aB U (fun Lx=>?_) (fun Lx=>?_)
 refine .sr (.mv ?_)
 refine .vl (Y.ql U U) (.an (.nil (.ret ?_)))
 exact .rb rfl (dd yQ)
 refine .sr (.vl (Y.ql U U) (.an (.nil ?_)))
 refine .aB U (fun Da=>?_) (fun Da=>?_)
 refine .sr (.mv ?_)
 refine .vl (Y.ql U U) (.mv ?_)
 refine .a8 (d:=184) U (fun Tw=>?_) (fun Tw=>?_)
 refine .gw 184 (Y.qo dE U U) (.gw 184 (Y.qz fV U U U U) (.gw 184 (Y.qo jf U U) (.gw 184 (Y.qz bn U U U U) (.gw 184 (Y.qw (n:=n.ins.length) a7 U dY) (.gw 184 (Y.qk r4 wE U (by first | rfl | exact IntWalk.u64_in _ om)) (.gw 184 (Y.zb U U) (.pk ?_)))))))
 refine .an (.nil (.ret ?_))
 exact .rb rfl (dd yQ)
 refine .gz 184 (.gz 184 (.gz 184 (.gz 184 (.gz 184 (.gz 184 (.gz 184 (.pk ?_)))))))
 refine .an (.nil (.ret ?_))
 exact .rb rfl (df qE)
 refine .sr (.vl (Y.ql U U) (.an (.nil ?_)))
 refine .aB U (fun Tx=>?_) (fun Tx=>?_)
 refine .sr (.mv ?_)
 refine .vl (Y.ql U U) (.mv ?_)
 refine .a8 (d:=197) U (fun Iy=>?_) (fun Iy=>?_)
 refine .gw 197 (Y.qo cK U U) (.gw 197 (Y.qz gy U U U U) (.gw 197 (Y.qo bY U U) (.gw 197 (Y.qz bg U U U U) (.gw 197 (Y.qr (m:=(mem).toNat) fu U U ik (ao (d:=default) ik)) (.gw 197 (Y.qo gx U U) (.gw 197 (Y.qz vT U U U U) (.gw 197 (Y.zl U) (.pk ?_))))))))
 refine .an (.nil (.ret ?_))
 exact .rb rfl (db yQ)
 refine .gz 197 (.gz 197 (.gz 197 (.gz 197 (.gz 197 (.gz 197 (.gz 197 (.gz 197 (.pk ?_))))))))
 refine .an (.nil (.ret ?_))
 exact .rb rfl (df qE)
 refine .skip (.sr (.an (.nil (.ret ?_))))
 exact .rb rfl (df qE)
open Go Go.AW Go.Proofs
theorem Db{n:ae}{c:Cell}(hs:n.Small)(hc:c.args.length <= 17592186043904):aw Try.prog 112 [.agg (ae.row n),.agg (Cell.row c)] [] [] (fun r o=>r = .v (.bool (decide (Shaped n c))) /\ o = []):=by
 obtain ⟨k,op,out,args,num,mem⟩:=c
 exact FX hs hc
open Go Go.AW Go.Proofs
theorem oT{l:List Int}(hl:l.length <= 17592186043904):aw Try.prog 89 [.fz 1 (l.map ah)] [] [] (fun r o=>r = .v (.bool (decide (∀ j,j < l.length -> dk (l.getD j 0)))) /\ o = []):=by
 refine aw.of Try.func89 U U U (n:=16) ab (aH U) (.sr (.an ?_))
 refine .nil (.seq (.sr (.an (.nil (.block ?_)))))
 refine .gS (fun (bF:Nat)=>⟨[(0,.fz 1 (l.map ah)),(3,vi bF)],[]⟩) (fun bF=>((bF:Int) <= (l.length:Int)) /\ (∀ j,j < bF -> dk (l.getD j 0))) (fun bF=>((l.length:Int) - (bF:Int)).toNat) 0 (⟨om,fun j hj=>by omega⟩) (Le.mk (.c (.cons (ak U aY) .nil)) .nil) (fun bF x9=>?_)
 obtain ⟨Cv,hw⟩:=x9
 refine .seq (.sr (.mv ?_))
 refine .mv ?_
 refine .vl (Y.qw (n:=l.length) a7 U dY) (.vl (Y.zb U U) (.nil (.aB U (fun c7=>?_) (fun c7=>?_))))
 refine .skip (.seq (.block (.sr (.mv ?_))))
 refine .mv ?_
 refine .vl (Y.qr (m:=bF) a7 U U aY (ao (d:=0) om)) (.ld bg ?_)
 refine .aR Kt (qH (w:=(l.getD bF 0))) U (.ai U U .nil) ab U (.vl (Y.zl U) (.nil (.dX U (fun tD=>?_) (fun tD=>?_))))
 refine .sr (.an (.nil (.ret ?_)))
 exact .rb rfl (df (fun h=>by have:=h bF om; contradiction))
 refine .skip (.region (.mv ?_))
 refine .vl (Y.qb U U aJ) (.an ?_)
 refine .nil (⟨bF + 1,⟨om,dp hw bO⟩,om,Le.mk (.c (.cons (ak U aY) .nil)) .nil⟩)
 refine .exit (.sr (.an (.nil (.ret ?_))))
 exact .rb rfl (dt (fun j hj=>hw j om))
theorem AH{n:ae}(hs:n.Small):aw Try.prog 110 [.agg (ae.row n)] [] [] (fun r o=>r = .v (.bool (decide (vO n))) /\ o = []):=by
 refine aw.of Try.func110 U U U (n:=170) ab (aH U) ?_
 have Pk:=hs.name; have QM:=hs.aa; have Lb:=hs.cells; have Iu:=hs.ins; have Iv:=hs.aD; have J5:=hs.streams; have QN:=hs.bD; have XJ:=hs.data; have VD:=hs.cH
 refine .sr (.box 101 U U U U U ab ?_)
 refine .an ?_
 refine .nil (.seq (.sr (.fa EE ?_)))
 refine .ld Md ?_
 refine .aR EI (mD (s:=n.name) (by first | assumption | omega)) U (.ai U U .nil) ab U (.vl (Y.zl U) (.mv ?_))
 refine .eR (d:=11) U (fun J7=>?_) (fun J7=>?_)
 refine .gz 11 (.gz 11 (.gz 11 (.gz 11 (.pk ?_))))
 refine .mv ?_
 refine .gz 17 (.gz 17 (.gz 17 (.gz 17 (.pk ?_))))
 refine .mv ?_
 refine .gz 23 (.gz 23 (.gz 23 (.gz 23 (.pk ?_))))
 refine .mv ?_
 refine .gz 29 (.gz 29 (.gz 29 (.gz 29 (.pk ?_))))
 refine .mv ?_
 refine .gz 35 (.gz 35 (.gz 35 (.gz 35 (.pk ?_))))
 refine .mv ?_
 refine .gz 41 (.gz 41 (.gz 41 (.gz 41 (.pk ?_))))
 refine .mv ?_
 refine .gz 47 (.gz 47 (.gz 47 (.gz 47 (.gz 47 (.gz 47 (.gz 47 (.pk ?_)))))))
 refine .mv ?_
 refine .gz 56 (.gz 56 (.gz 56 (.gz 56 (.gz 56 (.gz 56 (.gz 56 (.pk ?_)))))))
 refine .nil (.aQ U (.sr (.an (.nil (.ret ?_)))))
 exact .rb rfl (df (fun h=>by have h1:=h.name; have h2:=h.dm; have h3:=h.cO; have h4:=h.gB; have h5:=h.bZ; have h6:=h.dy; have h7:=h.gm; have h8:=h.aa; have h9:=h.ins; first | contradiction | omega))
 refine .gw 11 (Y.qo bS U U) (.gw 11 (Y.qz fU U U U U) (.gw 11 (Y.qw (n:=n.cells.length) dU U dY) (.gw 11 (Y.qq U U) (.pk ?_))))
 refine .mv ?_
 refine .a8 (d:=17) U (fun J8=>?_) (fun J8=>?_)
 refine .gz 17 (.gz 17 (.gz 17 (.gz 17 (.pk ?_))))
 refine .mv ?_
 refine .gz 23 (.gz 23 (.gz 23 (.gz 23 (.pk ?_))))
 refine .mv ?_
 refine .gz 29 (.gz 29 (.gz 29 (.gz 29 (.pk ?_))))
 refine .mv ?_
 refine .gz 35 (.gz 35 (.gz 35 (.gz 35 (.pk ?_))))
 refine .mv ?_
 refine .gz 41 (.gz 41 (.gz 41 (.gz 41 (.pk ?_))))
 refine .mv ?_
 refine .gz 47 (.gz 47 (.gz 47 (.gz 47 (.gz 47 (.gz 47 (.gz 47 (.pk ?_)))))))
 refine .mv ?_
 refine .gz 56 (.gz 56 (.gz 56 (.gz 56 (.gz 56 (.gz 56 (.gz 56 (.pk ?_)))))))
 refine .nil (.aQ U (.sr (.an (.nil (.ret ?_)))))
 exact .rb rfl (df (fun h=>by have h1:=h.name; have h2:=h.dm; have h3:=h.cO; have h4:=h.gB; have h5:=h.bZ; have h6:=h.dy; have h7:=h.gm; have h8:=h.aa; have h9:=h.ins; first | contradiction | omega))
 refine .gw 17 (Y.qo bB U U) (.gw 17 (Y.qz bn U U U U) (.gw 17 (Y.qw (n:=n.aa.length) a7 U dY) (.gw 17 (Y.qq U U) (.pk ?_))))
 refine .mv ?_
 refine .a8 (d:=23) U (fun oK=>?_) (fun oK=>?_)
 refine .gz 23 (.gz 23 (.gz 23 (.gz 23 (.pk ?_))))
 refine .mv ?_
 refine .gz 29 (.gz 29 (.gz 29 (.gz 29 (.pk ?_))))
 refine .mv ?_
 refine .gz 35 (.gz 35 (.gz 35 (.gz 35 (.pk ?_))))
 refine .mv ?_
 refine .gz 41 (.gz 41 (.gz 41 (.gz 41 (.pk ?_))))
 refine .mv ?_
 refine .gz 47 (.gz 47 (.gz 47 (.gz 47 (.gz 47 (.gz 47 (.gz 47 (.pk ?_)))))))
 refine .mv ?_
 refine .gz 56 (.gz 56 (.gz 56 (.gz 56 (.gz 56 (.gz 56 (.gz 56 (.pk ?_)))))))
 refine .nil (.aQ U (.sr (.an (.nil (.ret ?_)))))
 exact .rb rfl (df (fun h=>by have h1:=h.name; have h2:=h.dm; have h3:=h.cO; have h4:=h.gB; have h5:=h.bZ; have h6:=h.dy; have h7:=h.gm; have h8:=h.aa; have h9:=h.ins; first | contradiction | omega))
 refine .gw 23 (Y.qo bB U U) (.gw 23 (Y.qz bn U U U U) (.aC (d:=23) U ab U ?_))
 refine .aR O0 (oT (l:=n.aa) (om)) U (.ai U U .nil) ab U (.gw 23 (Y.zl U) (.pk ?_))
 refine .mv ?_
 refine .eR (d:=29) U (fun FK=>?_) (fun FK=>?_)
 refine .gz 29 (.gz 29 (.gz 29 (.gz 29 (.pk ?_))))
 refine .mv ?_
 refine .gz 35 (.gz 35 (.gz 35 (.gz 35 (.pk ?_))))
 refine .mv ?_
 refine .gz 41 (.gz 41 (.gz 41 (.gz 41 (.pk ?_))))
 refine .mv ?_
 refine .gz 47 (.gz 47 (.gz 47 (.gz 47 (.gz 47 (.gz 47 (.gz 47 (.pk ?_)))))))
 refine .mv ?_
 refine .gz 56 (.gz 56 (.gz 56 (.gz 56 (.gz 56 (.gz 56 (.gz 56 (.pk ?_)))))))
 refine .nil (.aQ U (.sr (.an (.nil (.ret ?_)))))
 exact .rb rfl (df (fun h=>by have h1:=h.name; have h2:=h.dm; have h3:=h.cO; have h4:=h.gB; have h5:=h.bZ; have h6:=h.dy; have h7:=h.gm; have h8:=h.aa; have h9:=h.ins; first | contradiction | omega))
 refine .gw 29 (Y.qo jf U U) (.gw 29 (Y.qz bn U U U U) (.aC (d:=29) U ab U ?_))
 refine .aR O0 (oT (l:=n.ins) (om)) U (.ai U U .nil) ab U (.gw 29 (Y.zl U) (.pk ?_))
 refine .mv ?_
 refine .eR (d:=35) U (fun uz=>?_) (fun uz=>?_)
 refine .gz 35 (.gz 35 (.gz 35 (.gz 35 (.pk ?_))))
 refine .mv ?_
 refine .gz 41 (.gz 41 (.gz 41 (.gz 41 (.pk ?_))))
 refine .mv ?_
 refine .gz 47 (.gz 47 (.gz 47 (.gz 47 (.gz 47 (.gz 47 (.gz 47 (.pk ?_)))))))
 refine .mv ?_
 refine .gz 56 (.gz 56 (.gz 56 (.gz 56 (.gz 56 (.gz 56 (.gz 56 (.pk ?_)))))))
 refine .nil (.aQ U (.sr (.an (.nil (.ret ?_)))))
 exact .rb rfl (df (fun h=>by have h1:=h.name; have h2:=h.dm; have h3:=h.cO; have h4:=h.gB; have h5:=h.bZ; have h6:=h.dy; have h7:=h.gm; have h8:=h.aa; have h9:=h.ins; first | contradiction | omega))
 refine .gw 35 (Y.qo eK U U) (.gw 35 (Y.qz ln U U U U) (.gw 35 (Y.qw (n:=n.aD.length) jE U dY) (.gw 35 (Y.qq U U) (.pk ?_))))
 refine .mv ?_
 refine .a8 (d:=41) U (fun At=>?_) (fun At=>?_)
 refine .gz 41 (.gz 41 (.gz 41 (.gz 41 (.pk ?_))))
 refine .mv ?_
 refine .gz 47 (.gz 47 (.gz 47 (.gz 47 (.gz 47 (.gz 47 (.gz 47 (.pk ?_)))))))
 refine .mv ?_
 refine .gz 56 (.gz 56 (.gz 56 (.gz 56 (.gz 56 (.gz 56 (.gz 56 (.pk ?_)))))))
 refine .nil (.aQ U (.sr (.an (.nil (.ret ?_)))))
 exact .rb rfl (df (fun h=>by have h1:=h.name; have h2:=h.dm; have h3:=h.cO; have h4:=h.gB; have h5:=h.bZ; have h6:=h.dy; have h7:=h.gm; have h8:=h.aa; have h9:=h.ins; first | contradiction | omega))
 refine .gw 41 (Y.qo cK U U) (.gw 41 (Y.qz gy U U U U) (.gw 41 (Y.qw (n:=n.streams.length) fu U dY) (.gw 41 (Y.qq U U) (.pk ?_))))
 refine .mv ?_
 refine .a8 (d:=47) U (fun I1=>?_) (fun I1=>?_)
 refine .gz 47 (.gz 47 (.gz 47 (.gz 47 (.gz 47 (.gz 47 (.gz 47 (.pk ?_)))))))
 refine .mv ?_
 refine .gz 56 (.gz 56 (.gz 56 (.gz 56 (.gz 56 (.gz 56 (.gz 56 (.pk ?_)))))))
 refine .nil (.aQ U (.sr (.an (.nil (.ret ?_)))))
 exact .rb rfl (df (fun h=>by have h1:=h.name; have h2:=h.dm; have h3:=h.cO; have h4:=h.gB; have h5:=h.bZ; have h6:=h.dy; have h7:=h.gm; have h8:=h.aa; have h9:=h.ins; first | contradiction | omega))
 refine .gw 47 (Y.qo lL U U) (.gw 47 (Y.qz bn U U U U) (.gw 47 (Y.qw (n:=n.bD.length) a7 U dY) (.gw 47 (Y.qo cK U U) (.gw 47 (Y.qz gy U U U U) (.gw 47 (Y.qw (n:=n.streams.length) fu U dY) (.gw 47 (Y.zj U U) (.pk ?_)))))))
 refine .mv ?_
 refine .a8 (d:=56) U (fun KY=>?_) (fun KY=>?_)
 refine .gz 56 (.gz 56 (.gz 56 (.gz 56 (.gz 56 (.gz 56 (.gz 56 (.pk ?_)))))))
 refine .nil (.aQ U (.sr (.an (.nil (.ret ?_)))))
 exact .rb rfl (df (fun h=>by have h1:=h.name; have h2:=h.dm; have h3:=h.cO; have h4:=h.gB; have h5:=h.bZ; have h6:=h.dy; have h7:=h.gm; have h8:=h.aa; have h9:=h.ins; first | contradiction | omega))
 refine .gw 56 (Y.qo kb U U) (.gw 56 (Y.qz bn U U U U) (.gw 56 (Y.qw (n:=n.data.length) a7 U dY) (.gw 56 (Y.qo cK U U) (.gw 56 (Y.qz gy U U U U) (.gw 56 (Y.qw (n:=n.streams.length) fu U dY) (.gw 56 (Y.zj U U) (.pk ?_)))))))
 refine .nil (.aB U (fun GM=>?_) (fun GM=>?_))
 refine .sr (.an (.nil (.ret ?_)))
 exact .rb rfl (df (fun h=>by have h1:=h.name; have h2:=h.dm; have h3:=h.cO; have h4:=h.gB; have h5:=h.bZ; have h6:=h.dy; have h7:=h.gm; have h8:=h.aa; have h9:=h.ins; first | contradiction | omega))
 refine .skip (.seq (.sr (.an (.nil (.block ?_)))))
 refine .gS (fun (j0:Nat)=>⟨[(1,.ptr 101 0 0 0),(3,vi j0)],[(101,.cells (ae.row n))]⟩) (fun j0=>((j0:Int) <= (n.aD.length:Int)) /\ (∀ j,j < j0 -> iP (n.aD.getD j default))) (fun j0=>((n.aD.length:Int) - (j0:Int)).toNat) 0 (⟨om,fun j hj=>by omega⟩) (Le.mk (.c (.cons (ak U aY) .nil)) (.c .nil)) (fun j0 Au=>?_)
 obtain ⟨FM,hm⟩:=Au
 refine .seq (.sr (.mv ?_))
 refine .fa eK ?_
 refine .ld ln ?_
 refine .vl (Y.qw (n:=n.aD.length) jE U dY) (.vl (Y.zb U U) (.nil (.aB U (fun Tf=>?_) (fun Tf=>?_))))
 refine .skip (.seq (.block (.sr (.fa eK ?_))))
 refine .ld ln ?_
 refine .mv ?_
 refine .vl (Y.qr (m:=j0) jE U U aY (ao (d:=default) om)) (.vl (Y.za Jh U U (aH U) U U) (.alloc 104 mX U U ab (.aj Ji U U U U U U (aH U) U ?_)))
 refine .nil (.sr ?_)
 have XL:=hs.mT _ (eC (l:=n.aD) (i:=j0) (d:=default) om)
 refine .fa Bx ?_
 refine .ld Md ?_
 refine .aR EI (mD (s:=((n.aD.getD j0 default).name)) (by first | assumption | omega)) U (.ai U U .nil) ab U (.vl (Y.zl U) (.mv ?_))
 refine .eR (d:=81) U (fun GN=>?_) (fun GN=>?_)
 refine .gz 81 (.gz 81 (.gz 81 (.gz 81 (.pk ?_))))
 refine .mv ?_
 refine .gz 87 (.gz 87 (.gz 87 (.pk ?_)))
 refine .mv ?_
 refine .gz 92 (.gz 92 (.gz 92 (.pk ?_)))
 refine .mv ?_
 refine .gz 97 (.gz 97 (.gz 97 (.pk ?_)))
 refine .mv ?_
 refine .gz 102 (.gz 102 (.gz 102 (.pk ?_)))
 refine .nil (.aQ U (.sr (.an (.nil (.ret ?_)))))
 exact .rb rfl (df (fun h=>by have h1:=h.aD j0 om; unfold iP at h1; obtain ⟨a1,a2,a3,a4,a5,a6⟩:=h1; first | contradiction | omega))
 refine .gw 81 (Y.qo mc U U) (.gw 81 (Y.qz bg U U U U) (.aC (d:=81) U ab U ?_))
 refine .aR Kt (qH (w:=((n.aD.getD j0 default).width))) U (.ai U U .nil) ab U (.gw 81 (Y.zl U) (.pk ?_))
 refine .mv ?_
 refine .eR (d:=87) U (fun XW=>?_) (fun XW=>?_)
 refine .gz 87 (.gz 87 (.gz 87 (.pk ?_)))
 refine .mv ?_
 refine .gz 92 (.gz 92 (.gz 92 (.pk ?_)))
 refine .mv ?_
 refine .gz 97 (.gz 97 (.gz 97 (.pk ?_)))
 refine .mv ?_
 refine .gz 102 (.gz 102 (.gz 102 (.pk ?_)))
 refine .nil (.aQ U (.sr (.an (.nil (.ret ?_)))))
 exact .rb rfl (df (fun h=>by have h1:=h.aD j0 om; unfold iP at h1; obtain ⟨a1,a2,a3,a4,a5,a6⟩:=h1; first | contradiction | omega))
 refine .gw 87 (Y.qo tB U U) (.gw 87 (Y.qz bg U U U U) (.gw 87 (Y.zb U U) (.pk ?_)))
 refine .mv ?_
 refine .a8 (d:=92) U (fun J6=>?_) (fun J6=>?_)
 refine .gz 92 (.gz 92 (.gz 92 (.pk ?_)))
 refine .mv ?_
 refine .gz 97 (.gz 97 (.gz 97 (.pk ?_)))
 refine .mv ?_
 refine .gz 102 (.gz 102 (.gz 102 (.pk ?_)))
 refine .nil (.aQ U (.sr (.an (.nil (.ret ?_)))))
 exact .rb rfl (df (fun h=>by have h1:=h.aD j0 om; unfold iP at h1; obtain ⟨a1,a2,a3,a4,a5,a6⟩:=h1; first | contradiction | omega))
 refine .gw 92 (Y.qo tB U U) (.gw 92 (Y.qz bg U U U U) (.gw 92 (Y.qq U U) (.pk ?_)))
 refine .mv ?_
 refine .a8 (d:=97) U (fun Tt=>?_) (fun Tt=>?_)
 refine .gz 97 (.gz 97 (.gz 97 (.pk ?_)))
 refine .mv ?_
 refine .gz 102 (.gz 102 (.gz 102 (.pk ?_)))
 refine .nil (.aQ U (.sr (.an (.nil (.ret ?_)))))
 exact .rb rfl (df (fun h=>by have h1:=h.aD j0 om; unfold iP at h1; obtain ⟨a1,a2,a3,a4,a5,a6⟩:=h1; first | contradiction | omega))
 refine .gw 97 (Y.qo By U U) (.gw 97 (Y.qz bg U U U U) (.gw 97 (Y.zj U U) (.pk ?_)))
 refine .mv ?_
 refine .a8 (d:=102) U (fun Ly=>?_) (fun Ly=>?_)
 refine .gz 102 (.gz 102 (.gz 102 (.pk ?_)))
 refine .nil (.aQ U (.sr (.an (.nil (.ret ?_)))))
 exact .rb rfl (df (fun h=>by have h1:=h.aD j0 om; unfold iP at h1; obtain ⟨a1,a2,a3,a4,a5,a6⟩:=h1; first | contradiction | omega))
 refine .gw 102 (Y.qo Bz U U) (.gw 102 (Y.qz bg U U U U) (.gw 102 (Y.zj U U) (.pk ?_)))
 refine .nil (.aB U (fun FI=>?_) (fun FI=>?_))
 refine .sr (.an (.nil (.ret ?_)))
 exact .rb rfl (df (fun h=>by have h1:=h.aD j0 om; unfold iP at h1; obtain ⟨a1,a2,a3,a4,a5,a6⟩:=h1; first | contradiction | omega))
 refine .skip (.region (.mv ?_))
 refine .vl (Y.qb U U aJ) (.an (.nil ?_))
 exact ⟨j0 + 1,⟨om,dp hm (by unfold iP; refine ⟨?_,?_,?_,?_,?_,?_⟩ <;> first | assumption | omega)⟩,om,Le.mk (.c (.cons (ak U aY) .nil)) (.c .nil)⟩
 refine .exit (.seq (.sr (.an (.nil (.block ?_)))))
 refine .gS (fun (bq:Nat)=>⟨[(1,.ptr 101 0 0 0),(5,vi bq)],[(101,.cells (ae.row n))]⟩) (fun bq=>((bq:Int) <= (n.streams.length:Int)) /\ (∀ j,j < bq -> gk n j)) (fun bq=>((n.streams.length:Int) - (bq:Int)).toNat) 0 (⟨om,fun j hj=>by omega⟩) (Le.mk (.c (.cons (ak U aY) .nil)) (.c .nil)) (fun bq Av=>?_)
 obtain ⟨Ld,xw⟩:=Av
 refine .seq (.sr (.mv ?_))
 refine .fa cK ?_
 refine .ld gy ?_
 refine .vl (Y.qw (n:=n.streams.length) fu U dY) (.vl (Y.zb U U) (.nil (.aB U (fun uI=>?_) (fun uI=>?_))))
 refine .skip ?_
 refine .Bk (fun (uT:Bool) (uU:Bool) (uV:Bool) (uW:Bool)=>⟨[(1,.ptr 101 0 0 0),(5,vi bq),(124,.ptr 106 0 0 1),(125,vi ((n.streams.getD bq default).width)),(126,.v (.bool (decide (dk ((n.streams.getD bq default).width))))),(127,.v (.bool (!decide (dk ((n.streams.getD bq default).width))))),(130,.ptr 101 0 0 6),(131,.fz 1 (n.bD.map ah)),(132,vi bq),(133,.fp (ah (n.bD.getD bq 0)) 0),(134,vi (n.bD.getD bq 0)),(135,.ptr 101 0 0 1),(136,.fz 1 (n.aa.map ah)),(137,vi n.aa.length),(138,.v (.bool (decide (In (n.bD.getD bq 0) (n.aa.length:Int))))),(139,.v (.bool (!decide (In (n.bD.getD bq 0) (n.aa.length:Int))))),(142,.ptr 106 0 0 2),(143,.v (.bool ((n.streams.getD bq default).out))),(144,.v (.bool uT)),(155,.v (.bool uU)),(158,.ptr 106 0 0 2),(159,.v (.bool ((n.streams.getD bq default).out))),(160,.v (.bool (!((n.streams.getD bq default).out)))),(161,.v (.bool uV)),(168,.v (.bool uW))],[(101,.cells (ae.row n)),(106,.cells [.v (.string ((n.streams.getD bq default).name)),vi ((n.streams.getD bq default).width),.v (.bool ((n.streams.getD bq default).out))])]⟩) (fun uT uU uV uW=>gk n bq) ?_ (fun uT uU uV uW vy=>?_)
 refine .block (.sr (.fa cK ?_))
 refine .ld gy ?_
 refine .mv ?_
 refine .vl (Y.qr (m:=bq) fu U U aY (ao (d:=default) om)) (.vl (Y.za EK U U (aH U) U U) (.alloc 106 mj U U ab (.aj EL U U U U U U (aH U) U ?_)))
 refine .nil (.seq ?_)
 have XO:=hs.mU _ (eC (l:=n.streams) (i:=bq) (d:=default) om)
 refine .de U (.br (n:=49) [0,1] [2,3,4,5,6,7,8,9,10,11,12,13,14,15,16,17,18,19,20,21,22,23,24,25,26,27,28,29,30,31,32,33,34,35,36,37,38,39,40,41,42,43,44,45,46,47,48,49,50] 2 U au (.cn 0 U (Y.qo BA U U) (.cn 1 U (Y.qz Md U U U U) (.nil (.one 2 U au (.aR EI (mD (s:=((n.streams.getD bq default).name)) (by first | assumption | omega)) U (.ai U U .nil) ab U ?_))))))
 refine .nil ⟨U,(.br (n:=44) [3,4,5,6] [7,8,9,10,11,12,13,14,15,16,17,18,19,20,21,22,23,24,25,26,27,28,29,30,31,32,33,34,35,36,37,38,39,40,41,42,43,44,45,46,47,48,49,50] 7 U au (.cn 3 U (Y.zl U) (.cn 4 U (Y.zf U U) (.split (d:=123) U (fun wX=>?_) (fun wX=>?_)))))⟩
 replace wX:¬ (lH ((n.streams.getD bq default).name)):=by simpa using wX
 refine .sk 5 U U U U (.sk 6 U U U U (.nil (.bw 7 U au U ab ab U U (.bw 8 U au U ab ab U U (.br (n:=32) [9,10,11,12,13,14,15,16,17,18] [19,20,21,22,23,24,25,26,27,28,29,30,31,32,33,34,35,36,37,38,39,40,41,42,43,44,45,46,47,48,49,50] 19 U au ?_)))))
 refine .cn 9 U (Y.zm U U U) (.cn 10 U (Y.zf U U) (.sk 11 U U U U (.sk 12 U U U U (.sk 13 U U U U (.sk 14 U U U U (.sk 15 U U U U (.sk 16 U U U U (.sk 17 U U U U (.sk 18 U U U U (.nil (.bw 19 U au U ab ab U U ?_)))))))))))
 refine .bw 20 U au U ab ab U U (.br (n:=17) [21,22,23,24,25,26,27,28,29,30,31,32,33] [34,35,36,37,38,39,40,41,42,43,44,45,46,47,48,49,50] 34 U au (.cn 21 U (Y.zm U U U) (.cn 22 U (Y.zf U U) (.sk 23 U U U U (.sk 24 U U U U (.sk 25 U U U U (.sk 26 U U U U (.sk 27 U U U U (.sk 28 U U U U (.sk 29 U U U U (.sk 30 U U U U (.sk 31 U U U U (.sk 32 U U U U (.sk 33 U U U U (.nil (.bw 34 U au U ab ab U U (.bw 35 U au U ab ab U U ?_)))))))))))))))))
 refine .bw 36 U au U ab ab U U (.br (n:=0) [37,38,39,40,41,42,43,44,45,46,47,48,49,50] [] 0 U au (.cn 37 U (Y.zm U U U) (.cn 38 U (Y.zf U U) (.sk 39 U U U U (.sk 40 U U U U (.sk 41 U U U U (.sk 42 U U U U (.sk 43 U U U U (.sk 44 U U U U (.sk 45 U U U U (.sk 46 U U U U (.sk 47 U U U U (.sk 48 U U U U (.sk 49 U U U U (.cn 50 U (Y.zm U U U) (.nil (.done au (.aQ U (.sr (.an (.nil (.ret ?_))))))))))))))))))))))
 exact .rb rfl (df (fun h=>by have h1:=h.strs bq om; unfold gk at h1; obtain ⟨a1,a2,a3,a4,a5⟩:=h1; first | contradiction | grind))
 replace wX:lH ((n.streams.getD bq default).name):=by simpa using wX
 refine .rn 5 U U U (Y.qo me U U) (.rn 6 U U U (Y.qz bg U U U U) (.nil (.one 7 U au (.aC (d:=123) U ab U (.aR Kt (qH (w:=((n.streams.getD bq default).width))) U (.ai U U .nil) ab U ?_)))))
 refine .nil ⟨U,(.br (n:=32) [8,9,10,11,12,13,14,15,16,17,18] [19,20,21,22,23,24,25,26,27,28,29,30,31,32,33,34,35,36,37,38,39,40,41,42,43,44,45,46,47,48,49,50] 19 U au (.rn 8 U U U (Y.zl U) (.cn 9 U (Y.zm U U U) (.cn 10 U (Y.zf U U) (.split (d:=129) U (fun uP=>?_) (fun uP=>?_))))))⟩
 replace uP:¬ (dk ((n.streams.getD bq default).width)):=by simpa using uP
 refine .sk 11 U U U U (.sk 12 U U U U (.sk 13 U U U U (.sk 14 U U U U (.sk 15 U U U U (.sk 16 U U U U (.sk 17 U U U U (.sk 18 U U U U (.nil (.bw 19 U au U ab ab U U (.bw 20 U au U ab ab U U (.br (n:=17) [21,22,23,24,25,26,27,28,29,30,31,32,33] [34,35,36,37,38,39,40,41,42,43,44,45,46,47,48,49,50] 34 U au ?_)))))))))))
 refine .cn 21 U (Y.zm U U U) (.cn 22 U (Y.zf U U) (.sk 23 U U U U (.sk 24 U U U U (.sk 25 U U U U (.sk 26 U U U U (.sk 27 U U U U (.sk 28 U U U U (.sk 29 U U U U (.sk 30 U U U U (.sk 31 U U U U (.sk 32 U U U U (.sk 33 U U U U (.nil (.bw 34 U au U ab ab U U ?_))))))))))))))
 refine .bw 35 U au U ab ab U U (.bw 36 U au U ab ab U U (.br (n:=0) [37,38,39,40,41,42,43,44,45,46,47,48,49,50] [] 0 U au ?_))
 refine .cn 37 U (Y.zm U U U) (.cn 38 U (Y.zf U U) (.sk 39 U U U U (.sk 40 U U U U (.sk 41 U U U U (.sk 42 U U U U (.sk 43 U U U U (.sk 44 U U U U (.sk 45 U U U U (.sk 46 U U U U (.sk 47 U U U U (.sk 48 U U U U (.sk 49 U U U U (.cn 50 U (Y.zm U U U) (.nil (.done au (.aQ U (.sr (.an (.nil (.ret ?_))))))))))))))))))))
 exact .rb rfl (df (fun h=>by have h1:=h.strs bq om; unfold gk at h1; obtain ⟨a1,a2,a3,a4,a5⟩:=h1; first | contradiction | grind))
 replace uP:dk ((n.streams.getD bq default).width):=by simpa using uP
 refine .rn 11 U U U (Y.qo lL U U) (.rn 12 U U U (Y.qz bn U U U U) (.rn 13 U U U (Y.zf U U) ?_))
 refine .rn 14 U U U (Y.qr (m:=bq) a7 U U aY (ao (d:=0) om)) ?_
 refine .rn 15 U U U (Y.qz bg U U U U) (.rn 16 U U U (Y.qo bB U U) (.rn 17 U U U (Y.qz bn U U U U) ?_))
 refine .rn 18 U U U (Y.qw (n:=n.aa.length) a7 U dY) (.nil (.one 19 U au (.aC (d:=129) U ab U (.aR kZ (cW (i:=(n.bD.getD bq 0)) (n:=(n.aa.length:Int))) U (.ai U U (.ai U U .nil)) ab U ?_))))
 refine .nil ⟨U,(.br (n:=17) [20,21,22,23,24,25,26,27,28,29,30,31,32,33] [34,35,36,37,38,39,40,41,42,43,44,45,46,47,48,49,50] 34 U au (.rn 20 U U U (Y.zl U) (.cn 21 U (Y.zm U U U) (.cn 22 U (Y.zf U U) (.split (d:=141) U (fun uO=>?_) (fun uO=>?_))))))⟩
 replace uO:¬ (In (n.bD.getD bq 0) (n.aa.length:Int)):=by simpa using uO
 refine .sk 23 U U U U (.sk 24 U U U U (.sk 25 U U U U (.sk 26 U U U U (.sk 27 U U U U (.sk 28 U U U U (.sk 29 U U U U (.sk 30 U U U U (.sk 31 U U U U (.sk 32 U U U U (.sk 33 U U U U (.nil (.bw 34 U au U ab ab U U (.bw 35 U au U ab ab U U (.bw 36 U au U ab ab U U ?_))))))))))))))
 refine .br (n:=0) [37,38,39,40,41,42,43,44,45,46,47,48,49,50] [] 0 U au (.cn 37 U (Y.zm U U U) (.cn 38 U (Y.zf U U) (.sk 39 U U U U (.sk 40 U U U U (.sk 41 U U U U (.sk 42 U U U U (.sk 43 U U U U (.sk 44 U U U U (.sk 45 U U U U (.sk 46 U U U U (.sk 47 U U U U (.sk 48 U U U U (.sk 49 U U U U (.cn 50 U (Y.zm U U U) (.nil (.done au (.aQ U ?_)))))))))))))))))
 refine .sr (.an (.nil (.ret ?_)))
 exact .rb rfl (df (fun h=>by have h1:=h.strs bq om; unfold gk at h1; obtain ⟨a1,a2,a3,a4,a5⟩:=h1; first | contradiction | grind))
 replace uO:In (n.bD.getD bq 0) (n.aa.length:Int):=by simpa using uO
 refine .rn 23 U U U (Y.qo gx U U) (.rn 24 U U U (Y.qz vT U U U U) (.rn 25 U U U (Y.zf U U) ?_))
 refine .split (d:=144) U (fun wR=>?_) (fun wR=>?_)
 refine .rn 26 U U U (Y.qo kb U U) (.rn 27 U U U (Y.qz bn U U U U) (.rn 28 U U U (Y.zf U U) ?_))
 refine .rn 29 U U U (Y.qr (m:=bq) a7 U U aY (ao (d:=0) om)) ?_
 refine .rn 30 U U U (Y.qz bg U U U U) (.rn 31 U U U (Y.qo bB U U) (.rn 32 U U U (Y.qz bn U U U U) ?_))
 refine .rn 33 U U U (Y.qw (n:=n.aa.length) a7 U dY) (.nil (.one 34 U au (.aC (d:=144) U ab U (.aR kZ (cW (i:=(n.data.getD bq 0)) (n:=(n.aa.length:Int))) U (.ai U U (.ai U U .nil)) ab U ?_))))
 refine .nil ⟨U,(.br (n:=0) [35,36,37,38,39,40,41,42,43,44,45,46,47,48,49,50] [] 0 U au (.rn 35 U U U (Y.zl U) (.rn 36 U U U (Y.zm U U U) ?_)))⟩
 refine .cn 37 U (Y.zm U U U) (.cn 38 U (Y.zf U U) (.split (d:=157) U (fun wV=>?_) (fun wV=>?_)))
 replace wV:¬ (In (n.data.getD bq 0) (n.aa.length:Int)):=by simpa using wV
 refine .sk 39 U U U U (.sk 40 U U U U (.sk 41 U U U U (.sk 42 U U U U (.sk 43 U U U U (.sk 44 U U U U (.sk 45 U U U U (.sk 46 U U U U (.sk 47 U U U U (.sk 48 U U U U (.sk 49 U U U U (.cn 50 U (Y.zm U U U) (.nil (.done au (.aQ U ?_))))))))))))))
 refine .sr (.an (.nil (.ret ?_)))
 exact .rb rfl (df (fun h=>by have h1:=h.strs bq om; unfold gk at h1; obtain ⟨a1,a2,a3,a4,a5⟩:=h1; first | contradiction | grind))
 replace wV:In (n.data.getD bq 0) (n.aa.length:Int):=by simpa using wV
 refine .rn 39 U U U (Y.qo gx U U) (.rn 40 U U U (Y.qz vT U U U U) (.rn 41 U U U (Y.zl U) ?_))
 refine .rn 42 U U U (Y.zf U U) ?_
 refine .split (d:=161) U (fun uX=>?_) (fun uX=>?_)
 replace uX:((n.streams.getD bq default).out) = false:=by simpa using uX
 refine .rn 43 U U U (Y.qo kb U U) (.rn 44 U U U (Y.qz bn U U U U) (.rn 45 U U U (Y.zf U U) ?_))
 refine .rn 46 U U U (Y.qr (m:=bq) a7 U U aY (ao (d:=0) om)) ?_
 refine .rn 47 U U U (Y.qz bg U U U U) (.rn 48 U U U (Y.zj U U) (.rn 49 U U U (Y.zm U U U) ?_))
 refine .cn 50 U (Y.zm U U U) (.nil (.done au (.aB U (fun Lz=>?_) (fun Lz=>?_))))
 refine .sr (.an (.nil (.ret ?_)))
 exact .rb rfl (df (fun h=>by have h1:=h.strs bq om; unfold gk at h1; obtain ⟨a1,a2,a3,a4,a5⟩:=h1; first | contradiction | grind))
 refine .skip ⟨true,(!decide (In (n.data.getD bq 0) (n.aa.length:Int))),true,decide ((n.data.getD bq 0) ≠ (-1)),by unfold gk; grind,Le.mk (.c8 (.c8 (.c2 (.cons (aT U j1) (.cons (aT U j1) (.c2 (.c (.cons (aT U j1) (.cons (aT U j1) .nil))))))))) (.c (.c .nil))⟩
 replace uX:((n.streams.getD bq default).out) = true:=by simpa using uX
 exact .sk 43 U U U U (.sk 44 U U U U (.sk 45 U U U U (.sk 46 U U U U (.sk 47 U U U U (.sk 48 U U U U (.rn 49 U U U (Y.zm U U U) (.cn 50 U (Y.zm U U U) (.nil (.done au (.cu U (.skip ⟨true,(!decide (In (n.data.getD bq 0) (n.aa.length:Int))),false,false,by unfold gk; grind,Le.mk (.c8 (.c8 (.c2 (.cons (aT U j1) (.cons (aT U j1) (.c2 (.c (.cons (aT U j1) (.cons (aT U j1) .nil))))))))) (.c (.c .nil))⟩)))))))))))
 refine .sk 26 U U U U (.sk 27 U U U U (.sk 28 U U U U (.sk 29 U U U U (.sk 30 U U U U (.sk 31 U U U U (.sk 32 U U U U (.sk 33 U U U U (.nil (.bw 34 U au U ab ab U U (.bw 35 U au U ab ab U U (.br (n:=0) [36,37,38,39,40,41,42,43,44,45,46,47,48,49,50] [] 0 U au ?_)))))))))))
 refine .rn 36 U U U (Y.zm U U U) (.cn 37 U (Y.zm U U U) (.cn 38 U (Y.zf U U) (.rn 39 U U U (Y.qo gx U U) (.rn 40 U U U (Y.qz vT U U U U) (.rn 41 U U U (Y.zl U) ?_)))))
 refine .rn 42 U U U (Y.zf U U) ?_
 refine .split (d:=161) U (fun uX=>?_) (fun uX=>?_)
 replace uX:((n.streams.getD bq default).out) = false:=by simpa using uX
 refine .rn 43 U U U (Y.qo kb U U) (.rn 44 U U U (Y.qz bn U U U U) (.rn 45 U U U (Y.zf U U) ?_))
 refine .rn 46 U U U (Y.qr (m:=bq) a7 U U aY (ao (d:=0) om)) ?_
 refine .rn 47 U U U (Y.qz bg U U U U) (.rn 48 U U U (Y.zj U U) (.rn 49 U U U (Y.zm U U U) ?_))
 refine .cn 50 U (Y.zm U U U) (.nil (.done au (.aB U (fun Lz=>?_) (fun Lz=>?_))))
 refine .sr (.an (.nil (.ret ?_)))
 exact .rb rfl (df (fun h=>by have h1:=h.strs bq om; unfold gk at h1; obtain ⟨a1,a2,a3,a4,a5⟩:=h1; first | contradiction | grind))
 refine .skip ⟨false,false,true,decide ((n.data.getD bq 0) ≠ (-1)),by unfold gk; grind,Le.mk (.c8 (.c8 (.c2 (.cons (aT U j1) (.cons (aT U j1) (.c2 (.c (.cons (aT U j1) (.cons (aT U j1) .nil))))))))) (.c (.c .nil))⟩
 replace uX:((n.streams.getD bq default).out) = true:=by simpa using uX
 exact .sk 43 U U U U (.sk 44 U U U U (.sk 45 U U U U (.sk 46 U U U U (.sk 47 U U U U (.sk 48 U U U U (.rn 49 U U U (Y.zm U U U) (.cn 50 U (Y.zm U U U) (.nil (.done au (.cu U (.skip ⟨false,false,false,false,by unfold gk; grind,Le.mk (.c8 (.c8 (.c2 (.cons (aT U j1) (.cons (aT U j1) (.c2 (.c (.cons (aT U j1) (.cons (aT U j1) .nil))))))))) (.c (.c .nil))⟩)))))))))))
 refine .region (.mv ?_)
 refine .vl (Y.qb U U aJ) (.an ?_)
 refine .nil (⟨bq + 1,⟨om,dp xw vy⟩,om,Le.mk (.c (.cons (ak U aY) .nil)) (.c .nil)⟩)
 refine .exit (.sr (.an (.nil (.ret ?_))))
 exact .rb rfl (dt ⟨bO,om,om,bO,bO,om,om,om,om,fun j hj=>hm j om,fun j hj=>xw j om⟩)
theorem uY{n:ae}(hs:n.Small):aw Try.prog 53 [.agg (ae.row n)] [] [] (fun r o=>r = .v (.bool (decide (bx n))) /\ o = []):=by
 refine aw.of Try.func53 U U U (n:=115) ab (aH U) ?_
 have QM:=hs.aa; have Lb:=hs.cells; have VD:=hs.cH
 refine .sr (.box 101 U U U U U ab ?_)
 refine .an ?_
 refine .nil (.seq (.sr (.vl (Y.za fF U U (aH U) U U) (.aR NW (AH (n:=n) hs) U (.ai U U .nil) ab U (.vl (Y.zl U) (.mv ?_))))))
 refine .eR (d:=12) U (fun yX=>?_) (fun yX=>?_)
 refine .gz 12 (.gz 12 (.gz 12 (.gz 12 (.gz 12 (.gz 12 (.gz 12 (.pk ?_)))))))
 refine .mv ?_
 refine .gz 21 (.gz 21 (.gz 21 (.gz 21 (.gz 21 (.gz 21 (.gz 21 (.pk ?_)))))))
 refine .nil (.aQ U (.sr (.an (.nil (.ret ?_)))))
 exact .rb rfl (df (fun h=>by have h1:=h.parts; have h2:=h.freeze; have h3:=h.done; contradiction))
 refine .gw 12 (Y.qo qF U U) (.gw 12 (Y.qz bg U U U U) (.gw 12 (Y.qo bB U U) (.gw 12 (Y.qz bn U U U U) (.gw 12 (Y.qw (n:=n.aa.length) a7 U dY) (.aC (d:=12) U ab U ?_)))))
 refine .aR kZ (cW (i:=n.freeze) (n:=(n.aa.length:Int))) U (.ai U U (.ai U U .nil)) ab U (.gw 12 (Y.zl U) (.pk ?_))
 refine .mv ?_
 refine .eR (d:=21) U (fun Af=>?_) (fun Af=>?_)
 refine .gz 21 (.gz 21 (.gz 21 (.gz 21 (.gz 21 (.gz 21 (.gz 21 (.pk ?_)))))))
 refine .nil (.aQ U (.sr (.an (.nil (.ret ?_)))))
 exact .rb rfl (df (fun h=>by have h1:=h.parts; have h2:=h.freeze; have h3:=h.done; contradiction))
 refine .gw 21 (Y.qo sq U U) (.gw 21 (Y.qz bg U U U U) (.gw 21 (Y.qo bB U U) (.gw 21 (Y.qz bn U U U U) (.gw 21 (Y.qw (n:=n.aa.length) a7 U dY) (.aC (d:=21) U ab U ?_)))))
 refine .aR kZ (cW (i:=n.done) (n:=(n.aa.length:Int))) U (.ai U U (.ai U U .nil)) ab U (.gw 21 (Y.zl U) (.pk ?_))
 refine .nil (.dX U (fun FK=>?_) (fun FK=>?_))
 refine .sr (.an (.nil (.ret ?_)))
 exact .rb rfl (df (fun h=>by have h1:=h.parts; have h2:=h.freeze; have h3:=h.done; contradiction))
 refine .skip (.seq (.sr (.an (.nil (.block ?_)))))
 refine .gS (fun (j0:Nat)=>⟨[(1,.ptr 101 0 0 0),(3,vi j0)],[(101,.cells (ae.row n))]⟩) (fun j0=>((j0:Int) <= (n.cH.length:Int)) /\ (∀ j,j < j0 -> In (n.cH.getD j 0) n.aa.length)) (fun j0=>((n.cH.length:Int) - (j0:Int)).toNat) 0 (⟨om,fun j hj=>by omega⟩) (Le.mk (.c (.cons (ak U aY) .nil)) (.c .nil)) (fun j0 Au=>?_)
 obtain ⟨FM,hr⟩:=Au
 refine .seq (.sr (.mv ?_))
 refine .fa mh ?_
 refine .ld bn ?_
 refine .vl (Y.qw (n:=n.cH.length) a7 U dY) (.vl (Y.zb U U) (.nil (.aB U (fun DC=>?_) (fun DC=>?_))))
 refine .skip (.seq (.block (.seq (.kx 8 U au (.val (Y.qo mh U U) ab (.val (Y.qz bn U U U U) ab (.val (Y.zf U U) ab (.val (Y.qr (m:=j0) a7 U U aY (ao (d:=0) om)) ab (.val (Y.qz bg U U U U) ab (.val (Y.qo bB U U) ab (.val (Y.qz bn U U U U) ab (.val (Y.qw (n:=n.aa.length) a7 U dY) ab (.nil (.aR kZ (cW (i:=(n.cH.getD j0 0)) (n:=(n.aa.length:Int))) U (.ai U U (.ai U U .nil)) ab U ?_))))))))))))))
 refine .vl (Y.zl U) (.nil (.dX U (fun I2=>?_) (fun I2=>?_)))
 refine .sr (.an (.nil (.ret ?_)))
 exact .rb rfl (df (fun h=>absurd (h.cH _ (cg (i:=j0) om)) bO))
 refine .skip (.region (.mv ?_))
 refine .vl (Y.qb U U om) (.an ?_)
 refine .nil (⟨j0 + 1,⟨om,dp hr bO⟩,om,Le.mk (.c (.cons (ak U aY) .nil)) (.c .nil)⟩)
 refine .exit (.sr (.fa bB ?_))
 refine .ld bn ?_
 refine .vl (Y.qw (n:=n.aa.length) a7 U dY) (.makeSlice (n:=n.aa.length) a7 dG U U U U om om ab ?_)
 refine .bX U ab (.sh (Sh.dD (d:=4) (n:=n.aa.length) 104 ((List.replicate n.aa.length 0).map ah) U iX (aW (by simp)) ab) (.nil (.seq (.sr (.an (.nil (.block ?_)))))))
 refine .gT (fun (bq:Nat) (dM:List Int)=>⟨[(1,.ptr 101 0 0 0),(4,.aN 104 1 0 n.aa.length),(5,vi bq)],[(101,.cells (ae.row n)),(104,.rows 1 (dM.map ah))]⟩) (fun bq dM=>(dM.length = n.aa.length) /\ ((bq:Int) <= (n.cells.length:Int)) /\ (zV n bq dM) /\ (∀ j,j < bq -> jC n (n.cells.getD j default))) (fun bq dM=>((n.cells.length:Int) - (bq:Int)).toNat) 0 (List.replicate n.aa.length 0) (⟨ik,ik,zV.init n,fun j hj=>by omega⟩) (Le.mk (.c2 (.cons (ak U aY) .nil)) (.c (.c .nil))) (fun bq dM Av=>?_)
 obtain ⟨P7,Ld,hd,hc⟩:=Av
 refine .seq (.sr (.mv ?_))
 refine .fa bS ?_
 refine .ld fU ?_
 refine .vl (Y.qw (n:=n.cells.length) dU U dY) (.vl (Y.zb U U) (.nil (.aB U (fun XX=>?_) (fun XX=>?_))))
 refine .skip (.iu (fun (jv:List Int)=>⟨[(1,.ptr 101 0 0 0),(4,.aN 104 1 0 n.aa.length),(5,vi bq)],[(101,.cells (ae.row n)),(104,.rows 1 (jv.map ah))]⟩) (fun jv=>(jv.length = n.aa.length) /\ (jC n (n.cells.getD bq default) /\ zV n (bq + 1) jv)) ?_ (fun jv FZ=>?_))
 refine .block (.sr (.fa bS ?_))
 refine .ld fU ?_
 refine .mv ?_
 refine .vl (Y.qr (m:=bq) dU U U aY (ao (d:=default) om)) (.vl (Y.za fq U U (aH U) U U) (.alloc 106 ez U U ab (.aj gi U U U U U U (aH U) U ?_)))
 refine .nil (.seq (.sr ?_))
 have VE:=hs.args (n.cells.getD bq default) (eC om)
 refine .vl (Y.za fF U U (aH U) U U) (.vl (Y.za fq U U (aH U) U U) (.aR NX (Db (n:=n) (c:=(n.cells.getD bq default)) hs (by first | assumption | omega)) U (.ai U U (.ai U U .nil)) ab U ?_))
 refine .vl (Y.zl U) (.nil (.dX U (fun P8=>?_) (fun P8=>?_)))
 refine .sr (.an (.nil (.ret ?_)))
 exact .rb rfl (df (fun h=>by have h1:=h.cells bq om; obtain ⟨a1,a2,a3,a4⟩:=h1; first | contradiction | (have:=a3 bO; contradiction) | (have:=a4 bO; contradiction)))
 refine .skip (.seq (.sr (.an (.nil (.block ?_)))))
 refine .gS (fun (oU:Nat)=>⟨[(1,.ptr 101 0 0 0),(4,.aN 104 1 0 n.aa.length),(5,vi bq),(6,.ptr 106 0 0 0),(7,vi oU)],[(101,.cells (ae.row n)),(104,.rows 1 (dM.map ah)),(106,.cells [vi ((n.cells.getD bq default).kind),vi ((n.cells.getD bq default).op),vi ((n.cells.getD bq default).out),.fz 1 (((n.cells.getD bq default).args).map ah),.v (.int .u64 (((n.cells.getD bq default).num:Nat):Int)),vi ((n.cells.getD bq default).mem)])]⟩) (fun oU=>((oU:Int) <= ((((n.cells.getD bq default).args).length:Nat):Int)) /\ (∀ j,j < oU -> In ((n.cells.getD bq default).args.getD j 0) n.aa.length)) (fun oU=>(((((n.cells.getD bq default).args).length:Nat):Int) - (oU:Int)).toNat) 0 (⟨om,fun j hj=>by omega⟩) (Le.mk (.c4 (.cons (ak U aY) .nil)) (.c2 (.c .nil))) (fun oU FW=>?_)
 obtain ⟨Pz,ha⟩:=FW
 refine .seq (.sr (.mv ?_))
 refine .fa bT ?_
 refine .ld bn ?_
 refine .vl (Y.qw (n:=((n.cells.getD bq default).args).length) a7 U dY) (.vl (Y.zb U U) (.nil (.aB U (fun Mm=>?_) (fun Mm=>?_))))
 refine .skip (.seq (.block (.seq (.kx 8 U au (.val (Y.qo bT U U) ab (.val (Y.qz bn U U U U) ab (.val (Y.zf U U) ab (.val (Y.qr (m:=oU) a7 U U aY (ao (d:=0) om)) ab (.val (Y.qz bg U U U U) ab (.val (Y.qo bB U U) ab (.val (Y.qz bn U U U U) ab (.val (Y.qw (n:=n.aa.length) a7 U dY) ab (.nil (.aR kZ (cW (i:=(((n.cells.getD bq default).args).getD oU 0)) (n:=(n.aa.length:Int))) U (.ai U U (.ai U U .nil)) ab U ?_))))))))))))))
 refine .vl (Y.zl U) (.nil (.dX U (fun Ts=>?_) (fun Ts=>?_)))
 refine .sr (.an (.nil (.ret ?_)))
 exact .rb rfl (df (fun h=>absurd ((h.cells bq om).1 _ (cg (i:=oU) om)) bO))
 refine .skip (.region (.mv ?_))
 refine .vl (Y.qb U U om) (.an ?_)
 refine .nil (⟨oU + 1,⟨om,dp ha bO⟩,om,Le.mk (.c4 (.cons (ak U aY) .nil)) (.c2 (.c .nil))⟩)
 refine .exit (.seq (.sr (.fa ck ?_)))
 refine .ld bg ?_
 refine .vl (Y.ql U U) (.nil (.aB U (fun P3=>?_) (fun P3=>?_)))
 refine .seq (.sr (.fa eg ?_))
 refine .ld bg ?_
 refine .vl (Y.zj U U) (.nil (.aB U (fun XY=>?_) (fun XY=>?_)))
 refine .sr (.an (.nil (.ret ?_)))
 exact .rb rfl (df (fun h=>by have h1:=h.cells bq om; obtain ⟨a1,a2,a3,a4⟩:=h1; first | contradiction | (have:=a3 bO; contradiction) | (have:=a4 bO; contradiction)))
 exact .skip (.exit (⟨dM,⟨om,⟨⟨oH.1 (fun j hj=>ha j om),bO,fun _=>by omega,fun h=>absurd bO h⟩,hd.skip om bO⟩⟩,Le.mk (.c2 (.c .nil)) (.c (.c .nil))⟩))
 refine .skip (.seq (.sr (.fa eg ?_)))
 refine .ld bg ?_
 refine .fa bB ?_
 refine .ld bn ?_
 refine .vl (Y.qw (n:=n.aa.length) a7 U dY) (.aR kZ (cW (i:=((n.cells.getD bq default).out)) (n:=(n.aa.length:Int))) U (.ai U U (.ai U U .nil)) ab U (.vl (Y.zl U) (.nil (.dX U (fun Pr=>?_) (fun Pr=>?_)))))
 refine .sr (.an (.nil (.ret ?_)))
 exact .rb rfl (df (fun h=>by have h1:=h.cells bq om; obtain ⟨a1,a2,a3,a4⟩:=h1; first | contradiction | (have:=a3 bO; contradiction) | (have:=a4 bO; contradiction)))
 refine .skip (.region ?_)
 have It:In (n.cells.getD bq default).out n.aa.length:=by assumption
 have Lr:=It; unfold In at Lr
 have Dc:=hd.le (w:=(n.cells.getD bq default).out.toNat) om
 refine .mv ?_
 refine .fa eg ?_
 refine .ld bg ?_
 refine .vl (Y.qs (m:=((n.cells.getD bq default).out).toNat) a7 U U om om) (.vl (Y.qz bg U (aO (d:=0) ik) U U) (.vl (Y.qb U U om) (.vl (Y.qs (m:=((n.cells.getD bq default).out).toNat) a7 U U om om) (.iB ((dM.set (((n.cells.getD bq default).out).toNat) ((dM.getD (((n.cells.getD bq default).out).toNat) 0) + 1)).map ah) dT U U U U U U U (aO (d:=0) om) (aH U) (eO U) (.nil (⟨dM.set (((n.cells.getD bq default).out).toNat) ((dM.getD (((n.cells.getD bq default).out).toNat) 0) + 1),⟨ik,⟨⟨oH.1 (fun j hj=>ha j om),bO,fun h=>absurd h bO,fun _=>by assumption⟩,hd.step om bO bO P7⟩⟩,Le.mk (.c2 (.c .nil)) (.c (.c .nil))⟩))))))
 obtain ⟨Mx,vy⟩:=FZ
 refine .region (.mv ?_)
 refine .vl (Y.qb U U om) (.an ?_)
 refine .nil (⟨bq + 1,jv,⟨om,om,vy.2,dp hc vy.1⟩,om,Le.mk (.c2 (.cons (ak U aY) .nil)) (.c (.c .nil))⟩)
 refine .exit (.seq (.seq ?_))
 have Mp:zV n n.cells.length dM:=by rw [show n.cells.length = bq by omega]; exact hd
 unfold zV at Mp; rw [List.take_length] at Mp
 refine .region (.an (.nil (.block ?_)))
 refine .gS (fun (oV:Nat)=>⟨[(4,.aN 104 1 0 n.aa.length),(8,vi oV)],[(104,.rows 1 (dM.map ah))]⟩) (fun oV=>((oV:Int) <= (n.aa.length:Int)) /\ (∀ w,w < oV -> dM.getD w 0 = 1)) (fun oV=>((n.aa.length:Int) - (oV:Int)).toNat) 0 (⟨om,fun j hj=>by omega⟩) (Le.mk (.c (.cons (ak U aY) .nil)) (.c .nil)) (fun oV FV=>?_)
 obtain ⟨Pu,h1⟩:=FV
 refine .seq (.sr (.mv ?_))
 refine .mv ?_
 refine .vl (Y.qw (n:=n.aa.length) a7 U U) (.vl (Y.zb U U) (.nil (.aB U (fun Ty=>?_) (fun Ty=>?_))))
 refine .skip (.seq (.block (.sr (.mv ?_))))
 refine .mv ?_
 refine .vl (Y.qs (m:=oV) a7 U U aY om) (.vl (Y.qz bg U (aO (d:=0) ik) U U) (.vl (Y.zj U U) (.nil (.aB U (fun AB=>?_) (fun AB=>?_)))))
 refine .sr (.an (.nil (.ret ?_)))
 exact .rb rfl (df (fun h=>by have h1:=h.jY oV om; have h2:=Mp oV om; omega))
 refine .skip (.region (.mv ?_))
 refine .vl (Y.qb U U om) (.an ?_)
 refine .nil (⟨oV + 1,⟨om,dp h1 om⟩,om,Le.mk (.c (.cons (ak U aY) .nil)) (.c .nil)⟩)
 refine .exit (.sr (.an (.nil (.ret ?_))))
 exact .rb rfl (dt (vO.formed bO bO bO (fun j hj=>hr j om) (fun j hj=>hc j om) (fun w hw=>by have h2:=Mp w hw; have h3:=h1 w om; omega)))
open Go Go.AW Go.Proofs
theorem Ga{kn:List Bool}{l:List Int}(h:∀ x ∈ l,In x kn.length)(hl:l.length <= 17592186043904):aw Try.prog 114 [.fz 1 (kn.map jO),.fz 1 (l.map ah)] [] [] (fun r o=>r = .v (.bool (decide (∀ x ∈ l,kn.getD x.toNat false = true))) /\ o = []):=by
 refine aw.of Try.func114 U U U (n:=20) ab (aH U) (.sr (.an ?_))
 refine .nil (.seq (.sr (.an (.nil (.block ?_)))))
 refine .gS (fun (rM:Nat)=>⟨[(0,.fz 1 (kn.map jO)),(1,.fz 1 (l.map ah)),(5,vi rM)],[]⟩) (fun rM=>((rM:Int) <= (l.length:Int)) /\ (∀ j,j < rM -> kn.getD (l.getD j 0).toNat false = true)) (fun rM=>((l.length:Int) - (rM:Int)).toNat) 0 (⟨om,fun j hj=>by omega⟩) (Le.mk (.c2 (.cons (ak U aY) .nil)) .nil) (fun rM x9=>?_)
 obtain ⟨Cv,hw⟩:=x9
 refine .seq (.sr (.mv ?_))
 refine .mv ?_
 refine .vl (Y.qw (n:=l.length) a7 U dY) (.vl (Y.zb U U) (.nil (.aB U (fun c9=>?_) (fun c9=>?_))))
 refine .skip (.seq (.block (.seq ?_)))
 have hx:=h _ (cg (l:=l) (i:=rM) om)
 unfold In at hx
 refine .region (.mv ?_)
 refine .mv ?_
 refine .mv ?_
 refine .vl (Y.qr (m:=rM) a7 U U aY (ao (d:=0) om)) (.ld bg ?_)
 refine .vl (Y.qr (m:=(l.getD rM 0).toNat) ss U U om (ao (d:=false) om)) (.ld vT ?_)
 refine .vl (Y.zl U) (.nil (.cond U (fun r7=>?_) (fun r7=>?_)))
 replace r7:(kn.getD ((l.getD rM 0).toNat) false) = false:=by simpa using r7
 refine .sr (.an (.nil (.ret ?_)))
 exact .rb rfl (df (fun h=>by have h2:=h _ (cg (l:=l) (i:=rM) om); simp_all))
 replace r7:(kn.getD ((l.getD rM 0).toNat) false) = true:=by simpa using r7
 refine .skip (.region (.mv ?_))
 refine .vl (Y.qb U U aJ) (.an ?_)
 refine .nil (⟨rM + 1,⟨om,dp hw bO⟩,om,Le.mk (.c2 (.cons (ak U aY) .nil)) .nil⟩)
 refine .exit (.sr (.an (.nil (.ret ?_))))
 exact .rb rfl (dt ((oH (d:=0)).1 (fun j hj=>hw j om)))
theorem yy{n:ae}(hs:n.Small)(hf:bx n):aw Try.prog 54 [.agg (ae.row n)] [] [] (fun r o=>r = .v (.bool (decide (Fit n))) /\ o = []):=by
 refine aw.of Try.func54 U U U (n:=79) ab (aH U) ?_
 have Pk:=hf.dy; have QM:=hf.gm; have Lb:=hf.bZ; have Iu:=hf.freeze; have Iv:=hf.done; unfold In at Iu Iv; have J5:=hf.cO; have QN:=hf.dm
 refine .sr (.box 101 U U U U U ab ?_)
 refine .an ?_
 refine .nil (.seq (.sr (.an (.nil (.block ?_)))))
 refine .gS (fun (bF:Nat)=>⟨[(1,.ptr 101 0 0 0),(3,vi bF)],[(101,.cells (ae.row n))]⟩) (fun bF=>((bF:Int) <= (n.cells.length:Int)) /\ (∀ j,j < bF -> Fits n (n.cells.getD j default))) (fun bF=>((n.cells.length:Int) - (bF:Int)).toNat) 0 (⟨om,fun j hj=>by omega⟩) (Le.mk (.c (.cons (ak U aY) .nil)) (.c .nil)) (fun bF x9=>?_)
 obtain ⟨Cv,hc⟩:=x9
 refine .seq (.sr (.mv ?_))
 refine .fa bS ?_
 refine .ld fU ?_
 refine .vl (Y.qw (n:=n.cells.length) dU U dY) (.vl (Y.zb U U) (.nil (.aB U (fun c9=>?_) (fun c9=>?_))))
 refine .skip (.seq (.block (.seq ?_)))
 have xK:n.cells.getD bF default ∈ n.cells:=eC om
 refine .kx 6 U au (.val (Y.za fF U U (aH U) U U) ab (.val (Y.qo bS U U) ab (.val (Y.qz fU U U U U) ab (.val (Y.zf U U) ab (.val (Y.qr (m:=bF) dU U U aY (ao (d:=default) om)) ab (.val (Y.za fq U U (aH U) U U) ab (.nil (.aR NY (wS (n:=n) (c:=(n.cells.getD bF default)) hs (hs.args _ xK) (hs.zP _ xK) (hf.cell xK).2.1 (hf.cell xK).IX) U (.ai U U (.ai U U .nil)) ab U ?_))))))))
 refine .vl (Y.zl U) (.nil (.dX U (fun r7=>?_) (fun r7=>?_)))
 refine .sr (.an (.nil (.ret ?_)))
 exact .rb rfl (df (fun h=>absurd (h.cells bF om) bO))
 refine .skip (.region (.mv ?_))
 refine .vl (Y.qb U U aJ) (.an ?_)
 refine .nil (⟨bF + 1,⟨om,dp hc bO⟩,om,Le.mk (.c (.cons (ak U aY) .nil)) (.c .nil)⟩)
 refine .exit (.seq (.sr (.an (.nil (.block ?_)))))
 refine .gS (fun (kV:Nat)=>⟨[(1,.ptr 101 0 0 0),(4,vi kV)],[(101,.cells (ae.row n))]⟩) (fun kV=>((kV:Int) <= (n.streams.length:Int)) /\ (∀ j,j < kV -> jD n j)) (fun kV=>((n.streams.length:Int) - (kV:Int)).toNat) 0 (⟨om,fun j hj=>by omega⟩) (Le.mk (.c (.cons (ak U aY) .nil)) (.c .nil)) (fun kV L0=>?_)
 obtain ⟨VH,xw⟩:=L0
 refine .seq (.sr (.mv ?_))
 refine .fa cK ?_
 refine .ld gy ?_
 refine .vl (Y.qw (n:=n.streams.length) fu U dY) (.vl (Y.zb U U) (.nil (.aB U (fun P9=>?_) (fun P9=>?_))))
 refine .skip (.kY (fun (AI:Bool) (AJ:Bool)=>⟨[(1,.ptr 101 0 0 0),(4,vi kV),(38,.ptr 101 0 0 5),(39,.fz 3 (n.streams.map bI.row)),(40,vi kV),(41,.fp (bI.row (n.streams.getD kV default)) 0),(42,.fp (bI.row (n.streams.getD kV default)) 2),(43,.v (.bool ((n.streams.getD kV default).out))),(44,.v (.bool AI)),(61,.v (.bool AJ))],[(101,.cells (ae.row n))]⟩) (fun AI AJ=>jD n kV) ?_ (fun AI AJ Iz=>?_))
 refine .block (.seq ?_)
 obtain ⟨_,_,KX,JA,_⟩:=hf.strs kV om
 unfold In at KX JA
 refine .j9 U au (.val (Y.qo bB U U) ab (.val (Y.qz bn U U U U) ab (.val (Y.qo lL U U) ab (.val (Y.qz bn U U U U) ab (.val (Y.zf U U) ab (.val (Y.qr (m:=kV) a7 U U aY (ao (d:=0) om)) ab (.val (Y.qz bg U U U U) ab (.val (Y.qr (m:=(n.bD.getD kV 0).toNat) a7 U U om (ao (d:=0) om)) ab (.val (Y.qz bg U U U U) ab (.val (Y.zj U U) ab (.val (Y.zf U U) ab (.a8 (d:=37) U (fun XZ=>?_) (fun XZ=>?_)))))))))))))
 refine .ay (d:=37) U ab ab U U (.ay (d:=37) U ab ab U U (.ay (d:=37) U ab ab U U ?_))
 refine .ay (d:=37) U ab ab U U (.ay (d:=37) U ab ab U U (.ay (d:=37) U ab ab U U ?_))
 refine .ay (d:=37) U ab ab U U (.ay (d:=44) U ab ab U U (.ay (d:=44) U ab ab U U ?_))
 refine .ay (d:=44) U ab ab U U (.ay (d:=44) U ab ab U U (.ay (d:=44) U ab ab U U ?_))
 refine .ay (d:=44) U ab ab U U (.ay (d:=44) U ab ab U U (.ay (d:=44) U ab ab U U ?_))
 refine .ay (d:=44) U ab ab U U (.ay (d:=44) U ab ab U U (.ay (d:=44) U ab ab U U ?_))
 refine .ay (d:=44) U ab ab U U (.ay (d:=44) U ab ab U U (.ay (d:=44) U ab ab U U ?_))
 refine .ay (d:=44) U ab ab U U (.ay (d:=44) U ab ab U U (.ay (d:=37) U ab ab U U ?_))
 refine .val (Y.zm U U U) ab (.nil (.aQ U ?_))
 refine .sr (.an (.nil (.ret ?_)))
 exact .rb rfl (df (fun h=>by have h1:=h.strs kV om; unfold jD ae.wd at h1; grind))
 refine .aC (d:=37) U ab U (.val (Y.qo cK U U) ab (.aC (d:=37) U ab U ?_))
 refine .val (Y.qz gy U U U U) ab (.aC (d:=37) U ab U (.val (Y.zf U U) ab (.aC (d:=37) U ab U (.val (Y.qr (m:=kV) fu U U aY (ao (d:=default) om)) ab (.aC (d:=37) U ab U (.val (Y.qo gx U U) ab (.aC (d:=37) U ab U ?_)))))))
 refine .val (Y.qz vT U U U U) ab (.aC (d:=37) U ab U (.val (Y.zf U U) ab (.split (d:=44) U (fun KW=>?_) (fun KW=>?_))))
 have Mp:=JA bO
 refine .aC (d:=44) U ab U (.val (Y.qo bB U U) ab (.aC (d:=44) U ab U ?_))
 refine .val (Y.qz bn U U U U) ab (.aC (d:=44) U ab U (.val (Y.qo kb U U) ab (.aC (d:=44) U ab U (.val (Y.qz bn U U U U) ab (.aC (d:=44) U ab U ?_)))))
 refine .val (Y.zf U U) ab (.aC (d:=44) U ab U ?_)
 refine .val (Y.qr (m:=kV) a7 U U aY (ao (d:=0) om)) ab (.aC (d:=44) U ab U (.val (Y.qz bg U U U U) ab (.aC (d:=44) U ab U ?_)))
 refine .val (Y.qr (m:=(n.data.getD kV 0).toNat) a7 U U om (ao (d:=0) om)) ab (.aC (d:=44) U ab U (.val (Y.qz bg U U U U) ab (.aC (d:=44) U ab U ?_)))
 refine .val (Y.qo cK U U) ab (.aC (d:=44) U ab U (.val (Y.qz gy U U U U) ab (.aC (d:=44) U ab U (.val (Y.zf U U) ab (.aC (d:=44) U ab U ?_)))))
 refine .val (Y.qr (m:=kV) fu U U aY (ao (d:=default) om)) ab (.aC (d:=44) U ab U (.val (Y.qo me U U) ab (.aC (d:=44) U ab U ?_)))
 refine .val (Y.qz bg U U U U) ab (.aC (d:=44) U ab U (.val (Y.zj U U) ab (.aC (d:=37) U ab U (.val (Y.zm U U U) ab (.val (Y.zm U U U) ab (.nil (.aB U (fun Lh=>?_) (fun Lh=>?_))))))))
 refine .sr (.an (.nil (.ret ?_)))
 exact .rb rfl (df (fun h=>by have h1:=h.strs kV om; unfold jD ae.wd at h1; grind))
 refine .skip ⟨true,decide ((n.aa.getD ((n.data.getD kV 0).toNat) 0) ≠ ((n.streams.getD kV default).width)),by unfold jD ae.wd; grind,Le.mk (.c8 (.cons (aT U j1) (.cons (aT U j1) .nil))) (.c .nil)⟩
 refine .ay (d:=44) U ab ab U U (.ay (d:=44) U ab ab U U (.ay (d:=44) U ab ab U U ?_))
 refine .ay (d:=44) U ab ab U U (.ay (d:=44) U ab ab U U (.ay (d:=44) U ab ab U U ?_))
 refine .ay (d:=44) U ab ab U U (.ay (d:=44) U ab ab U U (.ay (d:=44) U ab ab U U ?_))
 refine .ay (d:=44) U ab ab U U (.ay (d:=44) U ab ab U U (.ay (d:=44) U ab ab U U ?_))
 refine .ay (d:=44) U ab ab U U (.ay (d:=44) U ab ab U U (.ay (d:=44) U ab ab U U ?_))
 refine .ay (d:=44) U ab ab U U (.aC (d:=37) U ab U (.val (Y.zm U U U) ab (.val (Y.zm U U U) ab (.nil (.cu U ?_)))))
 refine .skip ⟨false,false,by unfold jD ae.wd; grind,Le.mk (.c8 (.cons (aT U j1) (.cons (aT U j1) .nil))) (.c .nil)⟩
 refine .region (.mv ?_)
 refine .vl (Y.qb U U aJ) (.an ?_)
 refine .nil (⟨kV + 1,⟨om,dp xw Iz⟩,om,Le.mk (.c (.cons (ak U aY) .nil)) (.c .nil)⟩)
 refine .exit (.sr (.fa bB ?_))
 refine .ld bn ?_
 refine .fa qF ?_
 refine .ld bg ?_
 refine .vl (Y.qr (m:=(n.freeze).toNat) a7 U U om (ao (d:=0) om)) (.ld bg ?_)
 refine .vl (Y.ql U U) (.mv ?_)
 refine .a8 (d:=70) U (fun Tz=>?_) (fun Tz=>?_)
 refine .gw 70 (Y.qo bB U U) (.gw 70 (Y.qz bn U U U U) (.gw 70 (Y.qo sq U U) (.gw 70 (Y.qz bg U U U U) (.gw 70 (Y.qr (m:=(n.done).toNat) a7 U U om (ao (d:=0) om)) (.gw 70 (Y.qz bg U U U U) (.gw 70 (Y.ql U U) (.pk ?_)))))))
 refine .an (.nil (.ret ?_))
 exact .rb rfl (dd ⟨fun h=>⟨by unfold ae.wd; omega,h,fun j hj=>xw j om,fun j hj=>hc j om⟩,fun h=>h.done⟩)
 refine .gz 70 (.gz 70 (.gz 70 (.gz 70 (.gz 70 (.gz 70 (.gz 70 (.pk ?_)))))))
 refine .an (.nil (.ret ?_))
 exact .rb rfl (df (fun h=>by have h1:=h.freeze; unfold ae.wd at h1; omega))
theorem AK{n:ae}(hs:n.Small)(hf:bx n):aw Try.prog 55 [.agg (ae.row n)] [] [] (fun r o=>r = .v (.bool (decide (¬ Acyclic n))) /\ o = []):=by
 refine aw.of Try.func55 U U U (n:=83) ab (aH U) ?_
 have J5:=hf.cO; have QN:=hf.dm
 refine .sr (.box 101 U U U U U ab ?_)
 refine .an (.nil (.sr ?_))
 refine .fa bB ?_
 refine .ld bn ?_
 refine .vl (Y.qw (n:=n.aa.length) a7 U dY) (.makeSlice (n:=n.aa.length) ss Sj U U U U om om ab ?_)
 refine .bX U ab (.sh (Sh.dD (d:=3) (n:=n.aa.length) 103 ((List.replicate n.aa.length false).map jO) U iX (aW (by simp)) ab) (.nil (.sr (.an ?_))))
 refine .nil (.seq (.sr (.an (.nil (.block ?_)))))
 refine .e8 (fun (jb:Nat) (lX:Nat) (fC:List Bool)=>⟨[(1,.ptr 101 0 0 0),(3,.aN 103 1 0 n.aa.length),(4,vi jb),(5,vi lX)],[(101,.cells (ae.row n)),(103,.rows 1 (fC.map jO))]⟩) (fun jb lX fC=>(fC.length = n.aa.length) /\ ((lX:Int) <= (n.cells.length:Int)) /\ (xj n lX fC) /\ ((jb:Int) = (lX:Int) - ((gC n lX).length:Int))) (fun jb lX fC=>((n.cells.length:Int) - (lX:Int)).toNat) 0 0 (List.replicate n.aa.length false) (⟨ik,ik,xj.init n,by simp [gC]⟩) (Le.mk (.c2 (.cons (ak U aY) (.cons (ak U aY) .nil))) (.c (.c .nil))) (fun jb lX fC Au=>?_)
 obtain ⟨sY,FM,hk,hle⟩:=Au
 refine .seq (.sr (.mv ?_))
 refine .fa bS ?_
 refine .ld fU ?_
 refine .vl (Y.qw (n:=n.cells.length) dU U dY) (.vl (Y.zb U U) (.nil (.aB U (fun T0=>?_) (fun T0=>?_))))
 refine .skip (.kY (fun (oW:Nat) (lz:List Bool)=>⟨[(1,.ptr 101 0 0 0),(3,.aN 103 1 0 n.aa.length),(4,vi oW),(5,vi lX)],[(101,.cells (ae.row n)),(103,.rows 1 (lz.map jO))]⟩) (fun oW lz=>(lz.length = n.aa.length) /\ (xj n (lX + 1) lz /\ (oW:Int) = ((lX + 1:Nat):Int) - ((gC n (lX + 1)).length:Int))) ?_ (fun oW lz T1=>?_))
 refine .block (.sr (.fa bS ?_))
 refine .ld fU ?_
 refine .mv ?_
 refine .vl (Y.qr (m:=lX) dU U U aY (ao (d:=default) om)) (.vl (Y.za fq U U (aH U) U U) (.alloc 106 ez U U ab (.aj gi U U U U U U (aH U) U ?_)))
 refine .nil (.seq ?_)
 have hx:=hk.next hf om sY
 have Zz:=hx.2.2.2
 have hy:=CW n lX
 refine .region (.fa ck ?_)
 refine .ld bg ?_
 refine .aR Je (r9 (w:=((n.cells.getD lX default).kind))) U (.ai U U .nil) ab U (.vl (Y.zl U) (.mv ?_))
 refine .eR (d:=30) U (fun qW=>?_) (fun qW=>?_)
 refine .gw 30 (Y.qo eg U U) (.gw 30 (Y.qz bg U U U U) (.gw 30 (Y.qp U U) (.pk ?_)))
 refine .nil (.aB U (fun DC=>?_) (fun DC=>?_))
 refine .region (.mv ?_)
 refine .fa eg ?_
 refine .ld bg ?_
 refine .vl (Y.qs (m:=((n.cells.getD lX default).out).toNat) ss U U om om) (.iB ((fC.set (((n.cells.getD lX default).out).toNat) true).map jO) QA U U U U U U U (aO (d:=false) om) (aH U) (eO U) (.nil (⟨jb,fC.set (((n.cells.getD lX default).out).toNat) true,⟨ik,by first | exact ⟨hx.1 bO bO,by have:=hy.2 bO; omega⟩ | exact ⟨(hx.2.1 bO).1,by have:=hy.1 bO; omega⟩ | exact ⟨hx.2.2.1 bO,by have:=hy.2 bO; omega⟩ | (exfalso; have:=(hx.2.1 bO).2; omega) | (exfalso; omega)⟩,Le.mk (.c2 (.cons (ak U aY) (.c .nil))) (.c (.c .nil))⟩)))
 refine .sr (.fa eg ?_)
 refine .ld bg ?_
 refine .vl (Y.qp U U) (.nil (.aB U (fun At=>?_) (fun At=>?_)))
 refine .region (.mv ?_)
 refine .vl (Y.qb U U om) (.an ?_)
 refine .nil (⟨jb + 1,fC,⟨om,by first | exact ⟨hx.1 bO bO,by have:=hy.2 bO; omega⟩ | exact ⟨(hx.2.1 bO).1,by have:=hy.1 bO; omega⟩ | exact ⟨hx.2.2.1 bO,by have:=hy.2 bO; omega⟩ | (exfalso; have:=(hx.2.1 bO).2; omega) | (exfalso; omega)⟩,Le.mk (.c2 (.cons (ak U aY) (.c .nil))) (.c (.c .nil))⟩)
 refine .skip (⟨jb,fC,⟨om,by first | exact ⟨hx.1 bO bO,by have:=hy.2 bO; omega⟩ | exact ⟨(hx.2.1 bO).1,by have:=hy.1 bO; omega⟩ | exact ⟨hx.2.2.1 bO,by have:=hy.2 bO; omega⟩ | (exfalso; have:=(hx.2.1 bO).2; omega) | (exfalso; omega)⟩,Le.mk (.c2 (.cons (ak U aY) (.c .nil))) (.c (.c .nil))⟩)
 refine .gz 30 (.gz 30 (.gz 30 (.pk ?_)))
 refine .nil (.cu U (.sr (.fa eg ?_)))
 refine .ld bg ?_
 refine .vl (Y.qp U U) (.nil (.aB U (fun At=>?_) (fun At=>?_)))
 refine .region (.mv ?_)
 refine .vl (Y.qb U U om) (.an ?_)
 refine .nil (⟨jb + 1,fC,⟨om,by first | exact ⟨hx.1 bO bO,by have:=hy.2 bO; omega⟩ | exact ⟨(hx.2.1 bO).1,by have:=hy.1 bO; omega⟩ | exact ⟨hx.2.2.1 bO,by have:=hy.2 bO; omega⟩ | (exfalso; have:=(hx.2.1 bO).2; omega) | (exfalso; omega)⟩,Le.mk (.c2 (.cons (ak U aY) (.c .nil))) (.c (.c .nil))⟩)
 refine .skip (⟨jb,fC,⟨om,by first | exact ⟨hx.1 bO bO,by have:=hy.2 bO; omega⟩ | exact ⟨(hx.2.1 bO).1,by have:=hy.1 bO; omega⟩ | exact ⟨hx.2.2.1 bO,by have:=hy.2 bO; omega⟩ | (exfalso; have:=(hx.2.1 bO).2; omega) | (exfalso; omega)⟩,Le.mk (.c2 (.cons (ak U aY) (.c .nil))) (.c (.c .nil))⟩)
 obtain ⟨PA,Cd⟩:=T1
 refine .region (.mv ?_)
 refine .vl (Y.qb U U om) (.an ?_)
 refine .nil (⟨oW,lX + 1,lz,⟨om,om,Cd.1,Cd.2⟩,om,Le.mk (.c2 (.cons (ak U aY) (.cons (ak U aY) .nil))) (.c (.c .nil))⟩)
 refine .exit (.seq (.sr (.an (.nil (.block ?_)))))
 have Ya:xj n n.cells.length fC:=by rw [show n.cells.length = lX by omega]; exact hk
 have Yb:=LD.init hf Ya
 have Rn:(jb:Int) = (n.cells.length:Int) - ((gC n n.cells.length).length:Int):=by rw [show n.cells.length = lX by omega]; exact hle
 refine .e8 (fun (jI:Int) (nf:Bool) (ks:List Bool)=>⟨[(1,.ptr 101 0 0 0),(3,.aN 103 1 0 n.aa.length),(4,vi jI),(7,.v (.bool nf))],[(101,.cells (ae.row n)),(103,.rows 1 (ks.map jO))]⟩) (fun jI nf ks=>(ks.length = n.aa.length) /\ (∃ done,LD n done ks jI /\ (nf = false -> Cb n n.cells.length done))) (fun jI nf ks=>2 * jI.toNat + nf.toNat) (jb:Int) true fC (⟨om,⟨[],by rw [Rn]; exact Yb,fun h=>(by cases h)⟩⟩) (Le.mk (.c2 (.cons (ak U aY) (.cons (aT U j1) .nil))) (.c (.c .nil))) (fun jI nf ks L1=>?_)
 obtain ⟨sY,hR⟩:=L1
 refine .seq (.sr (.mv ?_))
 refine .nil (.cond U (fun KW=>?_) (fun KW=>?_))
 refine .skip (.block (.sr (.an (.nil (.sr ?_)))))
 refine .an (.nil (.block ?_))
 refine .Bj (fun (iS:Int) (jJ:Bool) (jw:Nat) (eW:List Bool)=>⟨[(1,.ptr 101 0 0 0),(3,.aN 103 1 0 n.aa.length),(4,vi iS),(7,.v (.bool jJ)),(8,vi jw)],[(101,.cells (ae.row n)),(103,.rows 1 (eW.map jO))]⟩) (fun iS jJ jw eW=>(eW.length = n.aa.length) /\ ((jw:Int) <= (n.cells.length:Int)) /\ (pL n (jw:Int) jI eW iS jJ)) (fun iS jJ jw eW=>((n.cells.length:Int) - (jw:Int)).toNat) jI false 0 ks (⟨om,om,by obtain ⟨done,b1,b2⟩:=hR; exact ⟨done,b1,Int.le_refl _,fun h=>(by cases h),fun _ i hi h0=>by have:=hi.1; omega⟩⟩) (Le.mk (.c2 (.cons (ak U aY) (.cons (aT U j1) (.cons (ak U aY) .nil)))) (.c (.c .nil))) (fun iS jJ jw eW L2=>?_)
 obtain ⟨sY,T2,hQ⟩:=L2
 refine .seq (.sr (.mv ?_))
 refine .fa bS ?_
 refine .ld fU ?_
 refine .vl (Y.qw (n:=n.cells.length) dU U dY) (.vl (Y.zb U U) (.nil (.aB U (fun My=>?_) (fun My=>?_))))
 refine .skip (.Bi (fun (nh:Int) (ni:Bool) (kt:List Bool)=>⟨[(1,.ptr 101 0 0 0),(3,.aN 103 1 0 n.aa.length),(4,vi nh),(7,.v (.bool ni)),(8,vi jw)],[(101,.cells (ae.row n)),(103,.rows 1 (kt.map jO))]⟩) (fun nh ni kt=>(kt.length = n.aa.length) /\ (pL n ((jw + 1:Nat):Int) jI kt nh ni)) ?_ (fun nh ni kt PC=>?_))
 refine .block (.sr (.fa bS ?_))
 refine .ld fU ?_
 refine .mv ?_
 refine .vl (Y.qr (m:=jw) dU U U aY (ao (d:=default) om)) (.vl (Y.za fq U U (aH U) U U) (.alloc 109 ez U U ab (.aj gi U U U U U U (aH U) U ?_)))
 refine .nil (.seq (.seq ?_))
 have Z0:=pL.bd hf hQ
 refine .region (.fa ck ?_)
 refine .ld bg ?_
 refine .aR Je (r9 (w:=((n.cells.getD jw default).kind))) U (.ai U U .nil) ab U (.vl (Y.zl U) (.mv ?_))
 refine .eR (d:=61) U (fun Yc=>?_) (fun Yc=>?_)
 refine .gz 61 (.gz 61 (.gz 61 (.gz 61 (.gz 61 (.pk ?_)))))
 refine .mv ?_
 refine .gz 68 (.gz 68 (.gz 68 (.gz 68 (.gz 68 (.pk ?_)))))
 exact .nil (.aQ U (.exit (⟨iS,jJ,eW,⟨om,by first | exact pL.seq hQ bO | exact pL.skip hf hQ om (.inl bO) bO | exact pL.skip hf hQ om (.inr bO) bO | exact pL.step hf hQ om sY bO bO bO⟩,Le.mk (.c2 (.cons (ak U aY) (.cons (aT U j1) (.c .nil)))) (.c (.c .nil))⟩)))
 have Lj:=hf.iQ (bC.jZ (n:=n) (i:=(jw:Int)) ⟨⟨om,om⟩,bO⟩)
 rw [mV] at Lj
 have Ir:=Lj; unfold In at Ir
 refine .gw 61 (Y.zf U U) (.gw 61 (Y.qo eg U U) (.gw 61 (Y.qz bg U U U U) (.gw 61 (Y.qs (m:=((n.cells.getD jw default).out).toNat) ss U U om om) (.gw 61 (Y.qz vT U (aO (d:=false) om) U U) (.pk ?_)))))
 refine .mv ?_
 refine .split (d:=68) U (fun Cc=>?_) (fun Cc=>?_)
 refine .gz 68 (.gz 68 (.gz 68 (.gz 68 (.gz 68 (.pk ?_)))))
 exact .nil (.aQ U (.exit (⟨iS,jJ,eW,⟨om,by first | exact pL.seq hQ bO | exact pL.skip hf hQ om (.inl bO) bO | exact pL.skip hf hQ om (.inr bO) bO | exact pL.step hf hQ om sY bO bO bO⟩,Le.mk (.c2 (.cons (ak U aY) (.cons (aT U j1) (.c .nil)))) (.c (.c .nil))⟩)))
 refine .gw 68 (Y.zf U U) (.gw 68 (Y.qo bT U U) (.gw 68 (Y.qz bn U U U U) (.aC (d:=68) U ab U ?_)))
 refine .iC [103] NZ (Ga (kn:=eW) (l:=((n.cells.getD jw default).args)) (fun x hx=>by rw [sY]; exact hf.um (i:=(jw:Int)) ⟨om,om⟩ hx) (hs.args _ (eC om))) U (.cE U U (bz om) (b5 om) (.ai U U .nil)) (jA U (bj ug)) ab U trivial ?_
 refine .gw 68 (Y.zl U) (.pk ?_)
 refine .nil (.dX U (fun yw=>?_) (fun yw=>?_))
 refine .exit (⟨iS,jJ,eW,⟨om,by first | exact pL.seq hQ bO | exact pL.skip hf hQ om (.inl bO) bO | exact pL.skip hf hQ om (.inr bO) bO | exact pL.step hf hQ om sY bO bO bO⟩,Le.mk (.c2 (.cons (ak U aY) (.cons (aT U j1) (.c .nil)))) (.c (.c .nil))⟩)
 refine .skip (.sr (.mv ?_))
 refine .fa eg ?_
 refine .ld bg ?_
 refine .vl (Y.qs (m:=((n.cells.getD jw default).out).toNat) ss U U om om) (.iB ((eW.set (((n.cells.getD jw default).out).toNat) true).map jO) QA U U U U U U U (aO (d:=false) om) (aH U) (eO U) ?_)
 refine .nil (.sr (.an (.nil (.region ?_))))
 refine .mv ?_
 refine .vl (Y.wa U U om) (.an ?_)
 refine .nil (⟨iS - 1,true,eW.set (((n.cells.getD jw default).out).toNat) true,⟨ik,by first | exact pL.seq hQ bO | exact pL.skip hf hQ om (.inl bO) bO | exact pL.skip hf hQ om (.inr bO) bO | exact pL.step hf hQ om sY bO bO bO⟩,Le.mk (.c2 (.cons (ak U aY) (.cons (aT U j1) (.c .nil)))) (.c (.c .nil))⟩)
 obtain ⟨Mz,T3⟩:=PC
 refine .region (.mv ?_)
 refine .vl (Y.qb U U om) (.an ?_)
 refine .nil (⟨nh,ni,jw + 1,kt,⟨om,om,T3⟩,om,Le.mk (.c2 (.cons (ak U aY) (.cons (aT U j1) (.cons (ak U aY) .nil)))) (.c (.c .nil))⟩)
 refine .exit (⟨iS,jJ,eW,⟨om,by obtain ⟨done,b1,b2,b3,b4⟩:=hQ; exact ⟨done,b1,by rw [show (n.cells.length:Int) = (jw:Int) by omega]; exact b4⟩⟩,pL.mu hf hQ bO,Le.mk (.c2 (.cons (ak U aY) (.cons (aT U j1) .nil))) (.c (.c .nil))⟩)
 refine .exit (.sr (.mv ?_))
 refine .vl (Y.qq U U) (.an (.nil (.ret ?_)))
 exact .rb rfl (dd (by obtain ⟨done,b1,b2⟩:=hR; exact b1.res hf (b2 bO)))
theorem vz{n:ae}(hs:n.Small):aw Try.prog 15 [.agg (ae.row n)] [] [] (fun r o=>r = (vi (jU n)) /\ o = []):=by
 refine aw.of Try.func15 U U U (n:=14) ab (aH U) (.sr (.box 101 U U U U U ab ?_))
 refine .an ?_
 refine .nil (.seq (.block (.sr (.vl (Y.za fF U U (aH U) U U) (.aR Sb (uY (n:=n) hs) U (.ai U U .nil) ab U ?_)))))
 refine .vl (Y.zl U) (.an (.nil ?_))
 refine .dX U (fun c3=>?_) (fun c3=>?_)
 refine .sr (.an (.nil (.ret ?_)))
 exact .ri rfl (by unfold jU; rw [if_neg bO])
 refine .sr (.vl (Y.za fF U U (aH U) U U) (.aR Sc (yy (n:=n) hs bO) U (.ai U U .nil) ab U ?_))
 refine .vl (Y.zl U) (.an (.nil ?_))
 refine .dX U (fun c7=>?_) (fun c7=>?_)
 refine .sr (.an (.nil (.ret ?_)))
 exact .ri rfl (by unfold jU; rw [if_pos bO,if_neg bO])
 refine .sr (.vl (Y.za fF U U (aH U) U U) (.aR Sd (AK (n:=n) hs bO) U (.ai U U .nil) ab U ?_))
 refine .an (.nil ?_)
 refine .aB U (fun J7=>?_) (fun J7=>?_)
 refine .sr (.an (.nil (.ret ?_)))
 exact .ri rfl (by unfold jU; rw [if_pos bO,if_pos bO,if_neg bO])
 refine .skip (.sr (.an (.nil (.ret ?_))))
 exact .ri rfl (by unfold jU; rw [if_pos bO,if_pos bO,if_pos (Classical.not_not.1 bO)])
open Go Go.AW Go.Proofs
theorem mI{l:List Int}(hl:l.length <= 17592186043904):aw Try.prog 123 [.fz 1 (l.map ah)] [] [] (fun r o=>r = .dK 1 (l.map ah) /\ o = []):=by
 refine aw.of Try.func123 U U U (n:=8) ab (aH U) (.sr (.an ?_))
 refine .nil (.seq (.sr (.mv ?_)))
 refine .IU a7 U U ab (fun b4 FM=>?_)
 refine .nil (.cond U (fun c4=>?_) (fun c4=>?_))
 refine .sr (.an ?_)
 exact .nil (.sh (Sh.vr (d:=2) 1 U) (.ret ⟨_,_,U,U,(Eg (fun (z0:List Int)=>X.dK 1 (z0.map ah)) (by have:=FM bO; simpa using this:([]:List Int) = l):X.dK 1 (([]:List Int).map ah) = X.dK 1 (l.map ah)),U⟩))
 refine .skip (.sr (.buildSlice (([]:List Int).map ah) a7 dG U U U U U (aq (s:=1) (f:=ah) (fun _=>U)) U U U ab ?_))
 refine .mv ?_
 refine .sh (Sh.dD (d:=5) (n:=([]:List Int).length) 105 (([]:List Int).map ah) U iX (aW U) ab) (.tY ((([]:List Int) ++ l).map ah) (([]:List Int) ++ l).length a7 dG U U U U (bh aJ) (aV aJ) (b8 aJ) aJ aJ ab ab ?_)
 refine .an ?_
 exact .sh (Sh.dL (d:=2) (o:=105) U U (aW om) ab) (.nil (.ret ⟨_,_,U,U,(Eg (fun (z0:List Int)=>X.dK 1 (z0.map ah)) (U:(([]:List Int) ++ l) = l):X.dK 1 ((([]:List Int) ++ l).map ah) = X.dK 1 (l.map ah)),U⟩))
open Go Go.AW Go.Proofs
theorem jx{gl:List Gate}(tJ:gl.length <= 100000000){k a b:Int}:aw Try.prog 125 [.ptr 0 0 0 0,vi k,vi a,vi b] [.cells [.aN 1 3 0 gl.length],.rows 3 (gl.map Gate.row)] [0] (fun r o=>r = ((vi gl.length)) /\ o = [.cells [.aN 1 3 0 ((gl ++ [(⟨k,a,b⟩:Gate)]).length)],.rows 3 ((gl ++ [(⟨k,a,b⟩:Gate)]).map Gate.row)]):=by
 refine aw.of Try.func125 U U U (n:=28) ab (aH U) (.sr (.an (.nil (.sr ?_))))
 refine .mv ?_
 refine .mv ?_
 refine .vl (Y.zk U U) (.fa nH ?_)
 refine .ld CH ?_
 refine .mv ?_
 refine .mv ?_
 refine .mv ?_
 refine .vl (Y.qh OC EV U U U) (.buildSlice (([(⟨k,a,b⟩:Gate)]:List Gate).map Gate.row) xV EV U U U U U (aq (s:=3) (f:=Gate.row) (fun _=>U)) U U U ab ?_)
 refine .cJ Gate.row (gl ++ ([(⟨k,a,b⟩:Gate)]:List Gate)) xV EV U U U U (bh aJ) (aV aJ) (b8 aJ) aJ aJ ab ab (.vl (Y.zk U U) (.fa nH ?_))
 refine .aj OG U U U U U U (aH U) U (.nil (.sr (.mv ?_)))
 refine .vl (Y.zk U U) (.fa nH ?_)
 refine .ld CH ?_
 refine .vl (Y.qw (n:=(gl ++ ([(⟨k,a,b⟩:Gate)]:List Gate)).length) xV U U) (.vl (Y.wa U U aJ) (.an (.nil (.ret ?_))))
 exact ⟨_,_,U,U,Eg (fun (z0:Int)=>X.v (.int .i64 z0)) (by simp:(((gl ++ [(⟨k,a,b⟩:Gate)]).length:Nat):Int) - 1 = (gl.length:Int)),U⟩
theorem ia{gl:List Gate}(tJ:gl.length <= 100000000){a:Int}:aw Try.prog 95 [.ptr 0 0 0 0,vi a] [.cells [.aN 1 3 0 gl.length],.rows 3 (gl.map Gate.row)] [0] (fun r o=>r = ((vi gl.length)) /\ o = [.cells [.aN 1 3 0 ((gl ++ [(⟨4,a,0⟩:Gate)]).length)],.rows 3 ((gl ++ [(⟨4,a,0⟩:Gate)]).map Gate.row)]):=by
 refine aw.of Try.func95 U U U (n:=8) ab (aH U) (.sr (.an (.nil (.sr ?_))))
 refine .mv ?_
 refine .mv ?_
 refine .b7 [0,1] [] sR (jx (gl:=gl) (k:=4) (a:=a) (b:=0) om) U (.named U U (.ai U U (.ai U U (.ai U U .nil)))) ⟨U,U,trivial⟩ U ab (fun _ h=>by cases h) (fun _ h=>by cases h) ab ab ?_
 rintro r aK ⟨rfl,rfl⟩ _
 refine ⟨⟨rfl,(by intro ob aZ; simp only [List.mem_cons,List.not_mem_nil,or_false] at aZ; rcases aZ with rfl | rfl <;> rfl),.inl rfl⟩,(.an (.nil (.ret ?_)))⟩
 exact ⟨_,_,U,U,U,U⟩
theorem gD{gl:List Gate}(tJ:gl.length <= 100000000){a:Int}{b:Int}:aw Try.prog 96 [.ptr 0 0 0 0,vi a,vi b] [.cells [.aN 1 3 0 gl.length],.rows 3 (gl.map Gate.row)] [0] (fun r o=>r = ((vi gl.length)) /\ o = [.cells [.aN 1 3 0 ((gl ++ [(⟨5,a,b⟩:Gate)]).length)],.rows 3 ((gl ++ [(⟨5,a,b⟩:Gate)]).map Gate.row)]):=by
 refine aw.of Try.func96 U U U (n:=11) ab (aH U) (.sr (.an (.nil (.sr ?_))))
 refine .mv ?_
 refine .mv ?_
 refine .mv ?_
 refine .b7 [0,1] [] sR (jx (gl:=gl) (k:=5) (a:=a) (b:=b) om) U (.named U U (.ai U U (.ai U U (.ai U U .nil)))) ⟨U,U,trivial⟩ U ab (fun _ h=>by cases h) (fun _ h=>by cases h) ab ab ?_
 rintro r aK ⟨rfl,rfl⟩ _
 refine ⟨⟨rfl,(by intro ob aZ; simp only [List.mem_cons,List.not_mem_nil,or_false] at aZ; rcases aZ with rfl | rfl <;> rfl),.inl rfl⟩,(.an (.nil (.ret ?_)))⟩
 exact ⟨_,_,U,U,U,U⟩
theorem rN{gl:List Gate}(tJ:gl.length <= 100000000){a:Int}{b:Int}:aw Try.prog 143 [.ptr 0 0 0 0,vi a,vi b] [.cells [.aN 1 3 0 gl.length],.rows 3 (gl.map Gate.row)] [0] (fun r o=>r = ((vi gl.length)) /\ o = [.cells [.aN 1 3 0 ((gl ++ [(⟨6,a,b⟩:Gate)]).length)],.rows 3 ((gl ++ [(⟨6,a,b⟩:Gate)]).map Gate.row)]):=by
 refine aw.of Try.func143 U U U (n:=11) ab (aH U) (.sr (.an (.nil (.sr ?_))))
 refine .mv ?_
 refine .mv ?_
 refine .mv ?_
 refine .b7 [0,1] [] sR (jx (gl:=gl) (k:=6) (a:=a) (b:=b) om) U (.named U U (.ai U U (.ai U U (.ai U U .nil)))) ⟨U,U,trivial⟩ U ab (fun _ h=>by cases h) (fun _ h=>by cases h) ab ab ?_
 rintro r aK ⟨rfl,rfl⟩ _
 refine ⟨⟨rfl,(by intro ob aZ; simp only [List.mem_cons,List.not_mem_nil,or_false] at aZ; rcases aZ with rfl | rfl <;> rfl),.inl rfl⟩,(.an (.nil (.ret ?_)))⟩
 exact ⟨_,_,U,U,U,U⟩
theorem nj{gl:List Gate}(tJ:gl.length <= 100000000){a:Int}{b:Int}:aw Try.prog 175 [.ptr 0 0 0 0,vi a,vi b] [.cells [.aN 1 3 0 gl.length],.rows 3 (gl.map Gate.row)] [0] (fun r o=>r = ((vi gl.length)) /\ o = [.cells [.aN 1 3 0 ((gl ++ [(⟨7,a,b⟩:Gate)]).length)],.rows 3 ((gl ++ [(⟨7,a,b⟩:Gate)]).map Gate.row)]):=by
 refine aw.of Try.func175 U U U (n:=11) ab (aH U) (.sr (.an (.nil (.sr ?_))))
 refine .mv ?_
 refine .mv ?_
 refine .mv ?_
 refine .b7 [0,1] [] sR (jx (gl:=gl) (k:=7) (a:=a) (b:=b) om) U (.named U U (.ai U U (.ai U U (.ai U U .nil)))) ⟨U,U,trivial⟩ U ab (fun _ h=>by cases h) (fun _ h=>by cases h) ab ab ?_
 rintro r aK ⟨rfl,rfl⟩ _
 refine ⟨⟨rfl,(by intro ob aZ; simp only [List.mem_cons,List.not_mem_nil,or_false] at aZ; rcases aZ with rfl | rfl <;> rfl),.inl rfl⟩,(.an (.nil (.ret ?_)))⟩
 exact ⟨_,_,U,U,U,U⟩
theorem gH{gl:List Gate}(tJ:gl.length <= 100000000):aw Try.prog 178 [.ptr 0 0 0 0] [.cells [.aN 1 3 0 gl.length],.rows 3 (gl.map Gate.row)] [0] (fun r o=>r = ((vi gl.length)) /\ o = [.cells [.aN 1 3 0 ((gl ++ [(⟨1,0,0⟩:Gate)]).length)],.rows 3 ((gl ++ [(⟨1,0,0⟩:Gate)]).map Gate.row)]):=by
 refine aw.of Try.func178 U U U (n:=5) ab (aH U) (.sr (.an (.nil (.sr ?_))))
 refine .mv ?_
 refine .b7 [0,1] [] sR (jx (gl:=gl) (k:=1) (a:=0) (b:=0) om) U (.named U U (.ai U U (.ai U U (.ai U U .nil)))) ⟨U,U,trivial⟩ U ab (fun _ h=>by cases h) (fun _ h=>by cases h) ab ab ?_
 rintro r aK ⟨rfl,rfl⟩ _
 refine ⟨⟨rfl,(by intro ob aZ; simp only [List.mem_cons,List.not_mem_nil,or_false] at aZ; rcases aZ with rfl | rfl <;> rfl),.inl rfl⟩,(.an (.nil (.ret ?_)))⟩
 exact ⟨_,_,U,U,U,U⟩
open Go Go.AW Go.Proofs
theorem choose_spec{gl:List Gate}(tJ:gl.length <= 90000000){s v y n:Int}:aw Try.prog 97 [.ptr 0 0 0 0,vi s,vi v,vi y,vi n] [.cells [.aN 1 3 0 gl.length],.rows 3 (gl.map Gate.row)] [0] (fun r o=>r = ((vi ((gl.length:Int) + 2))) /\ o = [.cells [.aN 1 3 0 ((yd gl s v y n).length)],.rows 3 ((yd gl s v y n).map Gate.row)]):=by
 refine aw.of Try.func97 U U U (n:=25) ab (aH U) (.sr (.an (.nil (.sr ?_))))
 refine .mv ?_
 refine .mv ?_
 refine .mv ?_
 refine .b7 [0,1] [] tj (gD (gl:=gl) (a:=s) (b:=y) om) U (.named U U (.ai U U (.ai U U .nil))) ⟨U,U,trivial⟩ U ab (fun _ h=>by cases h) (fun _ h=>by cases h) ab ab ?_
 rintro r aK ⟨rfl,rfl⟩ _
 refine ⟨⟨rfl,(by intro ob aZ; simp only [List.mem_cons,List.not_mem_nil,or_false] at aZ; rcases aZ with rfl | rfl <;> rfl),.inl rfl⟩,(.an (.nil (.sr ?_)))⟩
 refine .mv ?_
 refine .mv ?_
 refine .mv ?_
 refine .b7 [0,1] [] tj (gD (gl:=gl ++ [(⟨5,s,y⟩:Gate)]) (a:=v) (b:=n) aJ) U (.named U U (.ai U U (.ai U U .nil))) ⟨U,U,trivial⟩ U ab (fun _ h=>by cases h) (fun _ h=>by cases h) ab ab ?_
 rintro r aK ⟨rfl,rfl⟩ _
 refine ⟨⟨rfl,(by intro ob aZ; simp only [List.mem_cons,List.not_mem_nil,or_false] at aZ; rcases aZ with rfl | rfl <;> rfl),.inl rfl⟩,(.an (.nil (.sr ?_)))⟩
 refine .mv ?_
 refine .mv ?_
 refine .mv ?_
 refine .b7 [0,1] [] xU (rN (gl:=(gl ++ [(⟨5,s,y⟩:Gate)]) ++ [(⟨5,v,n⟩:Gate)]) (a:=(gl.length:Int)) (b:=(((gl ++ [(⟨5,s,y⟩:Gate)]).length:Nat):Int)) aJ) U (.named U U (.ai U U (.ai U U .nil))) ⟨U,U,trivial⟩ U ab (fun _ h=>by cases h) (fun _ h=>by cases h) ab ab ?_
 rintro r aK ⟨rfl,rfl⟩ _
 refine ⟨⟨rfl,(by intro ob aZ; simp only [List.mem_cons,List.not_mem_nil,or_false] at aZ; rcases aZ with rfl | rfl <;> rfl),.inl rfl⟩,(.an (.nil (.ret ?_)))⟩
 exact ⟨_,_,U,U,Eg (fun (z0:Int)=>X.v (.int .i64 z0)) (by simp [Int.add_assoc]),by rw [<- HT]; rfl⟩
theorem s8{c:Int}{gl:List Gate}(hg:Good gl)(tJ:gl.length <= 50000000){k t u:Int}{a b:List Int}{f h e:Nat -> List Bool -> Bool}(hk:5 <= k /\ k <= 7)(ha:Ws c gl a f t)(hb:Ws c gl b h t)(hl:a.length = b.length)(so:a.length <= 1000)(hu:t + 20 <= u)(he:∀ i ins,e i ins = if k = 5 then (f i ins && h i ins) else if k = 6 then (f i ins || h i ins) else (f i ins ^^ h i ins)):aw Try.prog 128 [.ptr 0 0 0 0,vi k,.fz 1 (a.map ah),.fz 1 (b.map ah)] [.cells [.aN 1 3 0 gl.length],.rows 3 (gl.map Gate.row)] [0] (fun r o=>∃ (l:List Gate) (out:List Int),Ext gl l /\ l.length <= gl.length + a.length /\ out.length = a.length /\ Ws c l out e u /\ r = .dK 1 (out.map ah) /\ o = [.cells [.aN 1 3 0 l.length],.rows 3 (l.map Gate.row)]):=by
 refine aw.of Try.func128 U U U (n:=32) ab (aH U) (.sr (.an (.nil (.sr ?_))))
 refine .an ?_
 refine .sh (Sh.nil (d:=9) 109 1 U ab) (.nil (.seq (.sr (.mv ?_))))
 refine .vl (Y.qw (n:=a.length) a7 U (congrArg some (List.length_map ..))) (.mv ?_)
 refine .nil (.block (.e8 (fun (kM:Nat) (bc:List Gate) (oX:List Int)=>⟨[(0,.ptr 0 0 0 0),(1,vi k),(2,.fz 1 (a.map ah)),(3,.fz 1 (b.map ah)),(9,.aN 109 1 0 oX.length),(12,vi a.length),(13,vi kM)],[(0,.cells [.aN 1 3 0 bc.length]),(1,.rows 3 (bc.map Gate.row)),(109,.rows 1 (oX.map ah))]⟩) (fun kM bc oX=>((kM:Int) <= (a.length:Int)) /\ (yc c gl bc oX e u kM)) (fun kM bc oX=>((a.length:Int) - (kM:Int)).toNat) 0 gl ([]:List Int) (⟨pP,yc.init hg⟩) (Le.mk (.c4 (.cons (aM U aJ) (.c (.cons (ak U aY) .nil)))) (.cons (az U eS) (.c (.c .nil)))) (fun kM bc oX pK=>?_)))
 obtain ⟨CL,hM⟩:=pK
 refine .sr (.vl (Y.zb U U) (.nil (.seq (.aB U (fun Ag=>?_) (fun Ag=>?_)))))
 refine .skip (.seq (.block (.sr (.mv ?_))))
 refine .an (.nil ?_)
 have M0:=hM.len; have sJ:=hM.ol
 refine .de U (.blind 0 U au (ax.move U U) ab (.br (n:=4) [1,2,3,4,5,6,7,8,9,10] [11,12,13,14] 11 U au ?_))
 refine .cn 1 U (Y.zf U U) (.cn 2 U (Y.zf U U) (.cn 3 U (Y.zf U U) (.cn 4 U (Y.zf U U) (.cn 5 U (Y.qr (m:=kM) a7 U U aY (ao (d:=0) om)) (.cn 6 U (Y.qz bg U U U U) (.cn 7 U (Y.zf U U) (.cn 8 U (Y.zf U U) (.cn 9 U (Y.qr (m:=kM) a7 U U aY (ao (d:=0) om)) (.cn 10 U (Y.qz bg U U U U) (.nil (.one 11 U au (.b7 [0,1] [] sR (jx (gl:=bc) (k:=k) (a:=a.getD kM 0) (b:=b.getD kM 0) om) U (.named U U (.ai U U (.ai U U (.ai U U .nil)))) ⟨U,U,trivial⟩ U ab (fun _ h=>by cases h) (fun _ h=>by cases h) ab ab ?_))))))))))))
 rintro r aK ⟨rfl,rfl⟩ _
 refine ⟨⟨rfl,(by intro ob aZ; simp only [List.mem_cons,List.not_mem_nil,or_false] at aZ; rcases aZ with rfl | rfl <;> rfl),.inl rfl⟩,(.nil ⟨U,(.one 12 U au (.buildSlice (([(bc.length:Int)]:List Int).map ah) a7 dG U U U U U (aq (s:=1) (f:=ah) (fun _=>U)) U U U ab ?_))⟩)⟩
 refine .nil ⟨U,(.one 13 U au (.cJ ah (oX ++ ([(bc.length:Int)]:List Int)) a7 dG U U U U (bh aJ) (aV aJ) (b8 aJ) aJ aJ ab ab ?_))⟩
 refine .nil ⟨U,(.br (n:=0) [14] [] 0 U au (.cn 14 U (Y.qf U U) (.nil (.done au (.region (.vl (Y.qb U U aJ) (.mv ?_)))))))⟩
 refine .nil (⟨kM + 1,bc ++ [(⟨k,a.getD kM 0,b.getD kM 0⟩:Gate)],oX ++ ([(bc.length:Int)]:List Int),⟨om,hM.two hk (ha.bit kM om) (hb.bit kM om) hu (he kM)⟩,om,Le.mk (.c4 (.cons (aM U om) (.c (.cons (ak U aY) .nil)))) (.cons (az U eS) (.c (.c .nil)))⟩)
 refine .exit (.sr (.mv ?_))
 refine .an ?_
 exact .sh (Sh.dL (d:=8) (o:=109) U U (aW om) ab) (.nil (.ret ⟨_,_,U,U,_,_,hM.ext,by have:=hM.len; omega,by have:=hM.ol; omega,hM.ws,U,U⟩))
theorem Dd{c:Int}{gl:List Gate}(hg:Good gl)(tJ:gl.length <= 50000000){t:Int}{a:List Int}{f:Nat -> List Bool -> Bool}(ha:Ws c gl a f t)(so:a.length <= 1000):aw Try.prog 177 [.ptr 0 0 0 0,.fz 1 (a.map ah)] [.cells [.aN 1 3 0 gl.length],.rows 3 (gl.map Gate.row)] [0] (fun r o=>∃ (l:List Gate) (out:List Int),Ext gl l /\ l.length <= gl.length + a.length /\ out.length = a.length /\ Ws c l out (fun k ins=>!f k ins) (t + 10) /\ r = .dK 1 (out.map ah) /\ o = [.cells [.aN 1 3 0 l.length],.rows 3 (l.map Gate.row)]):=by
 refine aw.of Try.func177 U U U (n:=22) ab (aH U) (.sr (.an (.nil (.sr ?_))))
 refine .an ?_
 refine .sh (Sh.nil (d:=5) 105 1 U ab) (.nil (.seq (.sr (.mv ?_))))
 refine .vl (Y.qw (n:=a.length) a7 U (congrArg some (List.length_map ..))) (.mv ?_)
 refine .nil (.block (.e8 (fun (oY:Nat) (bc:List Gate) (bf:List Int)=>⟨[(0,.ptr 0 0 0 0),(5,.aN 105 1 0 bf.length),(8,.fz 1 (a.map ah)),(9,vi a.length),(10,vi oY)],[(0,.cells [.aN 1 3 0 bc.length]),(1,.rows 3 (bc.map Gate.row)),(105,.rows 1 (bf.map ah))]⟩) (fun oY bc bf=>((oY:Int) <= (a.length:Int)) /\ (yc c gl bc bf (fun k ins=>!f k ins) (t + 10) oY)) (fun oY bc bf=>((a.length:Int) - (oY:Int)).toNat) 0 gl ([]:List Int) (⟨pP,yc.init hg⟩) (Le.mk (.c (.cons (aM U aJ) (.c2 (.cons (ak U aY) .nil)))) (.cons (az U eS) (.c (.c .nil)))) (fun oY bc bf pK=>?_)))
 obtain ⟨CL,hM⟩:=pK
 refine .sr (.vl (Y.zb U U) (.nil (.seq (.aB U (fun J7=>?_) (fun J7=>?_)))))
 refine .skip (.seq (.block (.sr (.vl (Y.qr (m:=oY) a7 U U aY (ao (d:=0) om)) (.ld bg ?_)))))
 refine .an (.nil ?_)
 have M0:=hM.len; have sJ:=hM.ol
 refine .region (.mv ?_)
 refine .mv ?_
 refine .mv ?_
 refine .b7 [0,1] [] uy (ia (gl:=bc) (a:=a.getD oY 0) om) U (.named U U (.ai U U .nil)) ⟨U,U,trivial⟩ U ab (fun _ h=>by cases h) (fun _ h=>by cases h) ab ab ?_
 rintro r aK ⟨rfl,rfl⟩ _
 refine ⟨⟨rfl,(by intro ob aZ; simp only [List.mem_cons,List.not_mem_nil,or_false] at aZ; rcases aZ with rfl | rfl <;> rfl),.inl rfl⟩,(.buildSlice (([(bc.length:Int)]:List Int).map ah) a7 dG U U U U U (aq (s:=1) (f:=ah) (fun _=>U)) U U U ab ?_)⟩
 refine .cJ ah (bf ++ ([(bc.length:Int)]:List Int)) a7 dG U U U U (bh aJ) (aV aJ) (b8 aJ) aJ aJ ab ab ?_
 refine .an (.nil (.region ?_))
 refine .vl (Y.qb U U aJ) (.mv ?_)
 refine .nil (⟨oY + 1,bc ++ [(⟨4,a.getD oY 0,0⟩:Gate)],bf ++ ([(bc.length:Int)]:List Int),⟨om,hM.not ha om⟩,om,Le.mk (.c (.cons (aM U om) (.c2 (.cons (ak U aY) .nil)))) (.cons (az U eS) (.c (.c .nil)))⟩)
 refine .exit (.sr (.mv ?_))
 refine .an ?_
 exact .sh (Sh.dL (d:=4) (o:=105) U U (aW om) ab) (.nil (.ret ⟨_,_,U,U,_,_,hM.ext,by have:=hM.len; omega,by have:=hM.ol; omega,hM.ws,U,U⟩))
open Go Go.AW Go.Proofs
theorem uZ{c:Int}{gl:List Gate}(hg:Good gl)(tJ:gl.length <= 50000000){t:Int}{a:List Int}{f:Nat -> List Bool -> Bool}(ha:Ws c gl a f t)(so:a.length <= 5000)(ht:0 <= t):aw Try.prog 142 [.ptr 0 0 0 0,.fz 1 (a.map ah)] [.cells [.aN 1 3 0 gl.length],.rows 3 (gl.map Gate.row)] [0] (fun r o=>∃ (l:List Gate) (x:Int),Ext gl l /\ l.length <= gl.length + a.length + 1 /\ Wr c l x (fun ins=>kh (fun k=>f k ins) a.length) (t + 20 * (dI a.length:Int)) /\ r = (vi x) /\ o = [.cells [.aN 1 3 0 l.length],.rows 3 (l.map Gate.row)]):=by
 refine aw.of Try.func142 U U U (n:=53) ab (aH U) (.sr (.an ?_))
 refine .nil (.seq (.sr (.mv ?_)))
 refine .vl (Y.qw (n:=a.length) a7 U (congrArg some (List.length_map ..))) (.vl (Y.ql U U) (.nil (.aB U (fun c9=>?_) (fun c9=>?_))))
 refine .sr (.mv ?_)
 refine .b7 [0,1] [] ET (gH (gl:=gl) aJ) U (.named U U .nil) ⟨U,U,trivial⟩ U ab (fun _ h=>by cases h) (fun _ h=>by cases h) ab ab ?_
 rintro r aK ⟨rfl,rfl⟩ _
 refine ⟨⟨rfl,(by intro ob aZ; simp only [List.mem_cons,List.not_mem_nil,or_false] at aZ; rcases aZ with rfl | rfl <;> rfl),.inl rfl⟩,(.an (.nil (.ret ?_)))⟩
 exact ⟨_,_,U,U,_,_,Ext.Me hg ab,by simp,(Wr.zero om).as fun ins=>by rw [show a.length = 0 by omega]; rfl,U,U⟩
 refine .skip (.seq (.block (.gT (fun (jP:List Int) (bc:List Gate)=>⟨[(0,.ptr 0 0 0 0),(1,.fz 1 (jP.map ah))],[(0,.cells [.aN 1 3 0 bc.length]),(1,.rows 3 (bc.map Gate.row))]⟩) (fun jP bc=>(s0 c gl f a.length t bc jP)) (fun jP bc=>jP.length) a gl (s0.init hg ha om) (Le.mk (.c (.c .nil)) (.cons (az U eS) (.c .nil))) (fun jP bc pK=>?_))))
 have hI:=pK
 refine .seq (.sr (.mv ?_))
 refine .vl (Y.qw (n:=jP.length) a7 U (congrArg some (List.length_map ..))) (.vl (Y.qq U U) (.nil (.aB U (fun Ag=>?_) (fun Ag=>?_))))
 refine .skip (.block (.seq ?_))
 have z3:=hI.lo; have q7:=hI.len; have Z1:=hI.ext.len; have hex:∃ f t,Ws c bc jP f t:=(by obtain ⟨f1,t1,h1,_⟩:=hI.ex; exact ⟨f1,t1,h1⟩)
 refine .region (.an ?_)
 refine .sh (Sh.nil (d:=5) 105 1 U ab) (.nil (.seq (.sr (.an (.nil (.block ?_))))))
 refine .e8 (fun (s9:Nat) (fZ:List Gate) (jK:List Int)=>⟨[(0,.ptr 0 0 0 0),(1,.fz 1 (jP.map ah)),(5,.aN 105 1 0 jK.length),(6,vi s9)],[(0,.cells [.aN 1 3 0 fZ.length]),(1,.rows 3 (fZ.map Gate.row)),(105,.rows 1 (jK.map ah))]⟩) (fun s9 fZ jK=>(uB c bc jP fZ jK s9)) (fun s9 fZ jK=>jP.length - s9) 0 bc ([]:List Int) (uB.init hI.ext.dZ) (Le.mk (.c2 (.cons (aM U aJ) (.cons (ak U aY) .nil))) (.cons (az U eS) (.c (.c .nil)))) (fun s9 fZ jK Pt=>?_)
 have hJ:=Pt
 refine .seq (.seq ?_)
 have T4:=hJ.hi
 refine .region (.mv ?_)
 refine .vl (Y.qb U U aJ) (.mv ?_)
 refine .vl (Y.qw (n:=jP.length) a7 U (congrArg some (List.length_map ..))) (.vl (Y.zb U U) (.nil (.aB U (fun r7=>?_) (fun r7=>?_))))
 refine .skip (.seq (.block ?_))
 have oy:=hJ.len; have T5:=hJ.nl; have T6:=hJ.even
 refine .de U (.blind 0 U au (ax.move U U) ab (.br (n:=4) [1,2,3,4,5,6,7,8,9,10] [11,12,13,14] 11 U au ?_))
 refine .cn 1 U (Y.zf U U) (.cn 2 U (Y.zf U U) (.cn 3 U (Y.zf U U) (.cn 4 U (Y.qr (m:=s9) a7 U U aY (ao (d:=0) om)) (.cn 5 U (Y.qz bg U U U U) (.cn 6 U (Y.zf U U) (.cn 7 U (Y.zf U U) (.cn 8 U (Y.qb U U om) (.cn 9 U (Y.qr (m:=s9 + 1) a7 U U aY (ao (d:=0) om)) (.cn 10 U (Y.qz bg U U U U) (.nil (.one 11 U au (.b7 [0,1] [] xU (rN (gl:=fZ) (a:=jP.getD s9 0) (b:=jP.getD (s9 + 1) 0) om) U (.named U U (.ai U U (.ai U U .nil))) ⟨U,U,trivial⟩ U ab (fun _ h=>by cases h) (fun _ h=>by cases h) ab ab ?_))))))))))))
 rintro r aK ⟨rfl,rfl⟩ _
 refine ⟨⟨rfl,(by intro ob aZ; simp only [List.mem_cons,List.not_mem_nil,or_false] at aZ; rcases aZ with rfl | rfl <;> rfl),.inl rfl⟩,(.nil ⟨U,(.one 12 U au (.buildSlice (([(fZ.length:Int)]:List Int).map ah) a7 dG U U U U U (aq (s:=1) (f:=ah) (fun _=>U)) U U U ab ?_))⟩)⟩
 refine .nil ⟨U,(.one 13 U au (.cJ ah (jK ++ ([(fZ.length:Int)]:List Int)) a7 dG U U U U (bh aJ) (aV aJ) (b8 aJ) aJ aJ ab ab ?_))⟩
 refine .nil ⟨U,(.br (n:=0) [14] [] 0 U au (.cn 14 U (Y.qf U U) (.nil (.done au (.region (.mv ?_))))))⟩
 refine .vl (Y.qb U U aJ) (.an ?_)
 refine .nil (⟨s9 + 2,fZ ++ [(⟨6,jP.getD s9 0,jP.getD (s9 + 1) 0⟩:Gate)],jK ++ ([(fZ.length:Int)]:List Int),hJ.step om hex,om,Le.mk (.c2 (.cons (aM U aJ) (.cons (ak U aY) .nil))) (.cons (az U eS) (.c (.c .nil)))⟩)
 refine .exit (.iu (fun (jy:List Int)=>⟨[(0,.ptr 0 0 0 0),(5,.aN 105 1 0 jy.length)],[(0,.cells [.aN 1 3 0 fZ.length]),(1,.rows 3 (fZ.map Gate.row)),(105,.rows 1 (jy.map ah))]⟩) (fun jy=>s0 c gl f a.length t fZ jy /\ jy.length < jP.length) ?_ (fun jy vy=>?_))
 refine .seq ?_
 have oy:=hJ.len; have T5:=hJ.nl; have T6:=hJ.even; have T4:=hJ.hi
 refine .region (.mv ?_)
 refine .vl (Y.qw (n:=jP.length) a7 U (congrArg some (List.length_map ..))) (.vl (Y.zr U U om) (.vl (Y.ql U U) (.nil (.aB U (fun sv=>?_) (fun sv=>?_)))))
 refine .region (.mv ?_)
 refine .mv ?_
 refine .mv ?_
 refine .vl (Y.qw (n:=jP.length) a7 U (congrArg some (List.length_map ..))) (.vl (Y.wa U U aJ) (.vl (Y.qr (m:=((jP.length:Int) - 1).toNat) a7 U U om (ao (d:=0) om)) (.ld bg ?_)))
 refine .buildSlice (([jP.getD (((jP.length:Int) - 1).toNat) 0]:List Int).map ah) a7 dG U U U U U (aq (s:=1) (f:=ah) (fun _=>U)) U U U ab ?_
 refine .cJ ah (jK ++ ([jP.getD (((jP.length:Int) - 1).toNat) 0]:List Int)) a7 dG U U U U (bh aJ) (aV aJ) (b8 aJ) aJ aJ ab ab ?_
 refine .an ?_
 refine .nil (⟨jK ++ ([jP.getD (((jP.length:Int) - 1).toNat) 0]:List Int),by have hx:=hI.OP hJ om om om; rw [show jP.length - 1 = ((jP.length:Int) - 1).toNat by omega] at hx; exact ⟨hx,by rw [List.length_append,List.length_singleton]; omega⟩,Le.mk (.c (.cons (aM U om) .nil)) (.c2 (.c .nil))⟩)
 refine .skip (⟨jK,⟨hI.next hJ om om om,om⟩,Le.mk (.c (.cons (aM U om) .nil)) (.c2 (.c .nil))⟩)
 refine .sh (Sh.dL (d:=5) (o:=105) U U (aW om) ab) (.sh (Sh.cN (d:=5) (jy.map ah) U iX (cM.map aI)) (.region (.mv ?_)))
 refine .an ?_
 refine .nil ⟨jy,fZ,vy.1,by have:=vy.2; omega,Le.mk (.c (.c .nil)) (.cons (az U eS) (.c .nil))⟩
 refine .exit (.seq ?_)
 have z3:=hI.lo
 refine .region (.mv ?_)
 refine .vl (Y.qr (m:=0) a7 U U aY (ao (d:=0) om)) (.ld bg ?_)
 refine .an (.nil (.ret ?_))
 exact ⟨_,_,U,U,_,_,hI.ext,by have:=hI.len; omega,hI.done om,U,U⟩
end Go.Proofs.Ytlimckldnjmabaa
