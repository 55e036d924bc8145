/- The walk through formed. -/
import Derived.Test.YtlimckldnjmabaaSynx0
import Derived.Test.YtlimckldnjmabaaSynx1
import Derived.Test.YtlimckldnjmabaaAWx2
set_option linter.unusedSimpArgs false
set_option linter.unusedVariables false
set_option linter.unusedSectionVars false
set_option maxRecDepth 4000
set_option maxHeartbeats 8000000
namespace Go.Proofs.Ytlimckldnjmabaa
open Go Go.AW Go.Proofs
theorem gr{i:Int}{n:ab}:ay Try.prog 156 [vi i,.fp (ab.row n) 0] [] [] (fun r o=>r = .v (.bool (decide (In i n.aa.length))) /\ o = []):=by
 refine ay.of Try.func156 U U U (n:=13) ae (aL U) (.sr (.an (.nil (.sr ?_))))
 refine .mv ?_
 refine .vl (Y.qq U U) (.mv ?_)
 refine .aG (d:=6) U (fun c6=>?_) (fun c6=>?_)
 refine .gw 6 (Y.zh U U) (.gw 6 (Y.qp cg U U) (.gw 6 (Y.zb bu U U U U) (.gw 6 (Y.qy (n:=n.aa.length) az U fk) (.gw 6 (Y.zd U U) (.pk ?_)))))
 refine .an (.nil (.ret ?_))
 exact .rb rfl (dd (by (simp only [In]) <;> (first | omega | grind)))
 refine .gz 6 (.gz 6 (.gz 6 (.gz 6 (.gz 6 (.pk ?_)))))
 refine .an (.nil (.ret ?_))
 exact .rb rfl (df (by (simp only [In]) <;> (first | omega | grind)))
theorem wY{i:Int}{n:ab}:ay Try.prog 158 [vi i,.fp ([.jv (.func 156) [] [.fp (ab.row n) 0]]) 0] [] [] (fun r o=>r = .v (.bool (!decide (In i n.aa.length))) /\ o = []):=by
 refine ay.of Try.func158 U U U (n:=8) ae (aL U) (.sr (.an (.nil (.sr ?_))))
 refine .ld Aw ?_
 refine .mv ?_
 refine .n7 U uu (gr (i:=i)) U (.ai U U (.ai U U .nil)) ae U (.vl (Y.zn U) (.an (.nil (.ret ?_))))
 exact .rb rfl (rfl)
theorem wZ{i:Int}{n:ab}:ay Try.prog 159 [vi i,.fp ([.jv (.func 156) [] [.fp (ab.row n) 0]]) 0] [] [] (fun r o=>r = .v (.bool (!decide (In i n.aa.length))) /\ o = []):=by
 refine ay.of Try.func159 U U U (n:=8) ae (aL U) (.sr (.an (.nil (.sr ?_))))
 refine .ld Aw ?_
 refine .mv ?_
 refine .n7 U uu (gr (i:=i)) U (.ai U U (.ai U U .nil)) ae U (.vl (Y.zn U) (.an (.nil (.ret ?_))))
 exact .rb rfl (rfl)
theorem yG{n:ab}(hs:n.Small)(MX:n.aa.length + n.ins.length <= 17592186044416):ay Try.prog 108 [.agg (ab.row n)] [] [] (fun r o=>r = .v (.bool (decide (bg n))) /\ o = []):=by
 refine ay.of Try.func108 U U U (n:=234) ae (aL U) ?_
 have TF:=hs.name; have Zb:=hs.aa; have RG:=hs.cells; have RH:=hs.ins; have RI:=hs.aA; have TB:=hs.streams; have Zc:=hs.ba; have hs8:=hs.data; have TG:=hs.bF
 have Qg:([n.aa,n.ins]:List (List Int)).flatten = n.aa ++ n.ins:=by simp
 have z5:(([n.aa,n.ins]:List (List Int)).flatten).length = n.aa.length + n.ins.length:=by simp
 refine .sr (.box 101 U U U U U ae ?_)
 refine .an ?_
 refine .nil (.seq (.sr (.fa La ?_)))
 refine .ld Tb ?_
 refine .bm Fe (qL (s:=n.name) (by first | assumption | omega)) U (.ai U U .nil) ae U (.vl (Y.zn U) (.mv ?_))
 refine .sn (d:=17) U (fun TH=>?_) (fun TH=>?_)
 refine .gz 17 (.gz 17 (.gz 17 (.gz 17 (.pk ?_))))
 refine .mv ?_
 refine .gz 23 (.gz 23 (.gz 23 (.gz 23 (.pk ?_))))
 refine .mv ?_
 refine .gz 29 (.gz 29 (.gz 29 (.gz 29 (.pk ?_))))
 refine .mv ?_
 refine .gz 35 (.gz 35 (.gz 35 (.gz 35 (.pk ?_))))
 refine .mv ?_
 refine .gz 41 (.gz 41 (.gz 41 (.gz 41 (.gz 41 (.gz 41 (.gz 41 (.pk ?_)))))))
 refine .mv ?_
 refine .gz 50 (.gz 50 (.gz 50 (.gz 50 (.gz 50 (.gz 50 (.gz 50 (.pk ?_)))))))
 refine .nil (.bf U (.sr (.an (.nil (.ret ?_)))))
 exact .rb rfl (df (fun h=>by have h1:=h.name; have h2:=h.dH; have h3:=h.dr; have h4:=h.kq; have h5:=h.cG; have h6:=h.dM; have h7:=h.gM; first | omega | contradiction))
 refine .gw 17 (Y.qp cK U U) (.gw 17 (Y.zb iz U U U U) (.gw 17 (Y.qy (n:=n.cells.length) dZ U fk) (.gw 17 (Y.qr U U) (.pk ?_))))
 refine .mv ?_
 refine .aG (d:=23) U (fun Kc=>?_) (fun Kc=>?_)
 refine .gz 23 (.gz 23 (.gz 23 (.gz 23 (.pk ?_))))
 refine .mv ?_
 refine .gz 29 (.gz 29 (.gz 29 (.gz 29 (.pk ?_))))
 refine .mv ?_
 refine .gz 35 (.gz 35 (.gz 35 (.gz 35 (.pk ?_))))
 refine .mv ?_
 refine .gz 41 (.gz 41 (.gz 41 (.gz 41 (.gz 41 (.gz 41 (.gz 41 (.pk ?_)))))))
 refine .mv ?_
 refine .gz 50 (.gz 50 (.gz 50 (.gz 50 (.gz 50 (.gz 50 (.gz 50 (.pk ?_)))))))
 refine .nil (.bf U (.sr (.an (.nil (.ret ?_)))))
 exact .rb rfl (df (fun h=>by have h1:=h.name; have h2:=h.dH; have h3:=h.dr; have h4:=h.kq; have h5:=h.cG; have h6:=h.dM; have h7:=h.gM; first | omega | contradiction))
 refine .gw 23 (Y.qp cg U U) (.gw 23 (Y.zb bu U U U U) (.gw 23 (Y.qy (n:=n.aa.length) az U fk) (.gw 23 (Y.qr U U) (.pk ?_))))
 refine .mv ?_
 refine .aG (d:=29) U (fun Hw=>?_) (fun Hw=>?_)
 refine .gz 29 (.gz 29 (.gz 29 (.gz 29 (.pk ?_))))
 refine .mv ?_
 refine .gz 35 (.gz 35 (.gz 35 (.gz 35 (.pk ?_))))
 refine .mv ?_
 refine .gz 41 (.gz 41 (.gz 41 (.gz 41 (.gz 41 (.gz 41 (.gz 41 (.pk ?_)))))))
 refine .mv ?_
 refine .gz 50 (.gz 50 (.gz 50 (.gz 50 (.gz 50 (.gz 50 (.gz 50 (.pk ?_)))))))
 refine .nil (.bf U (.sr (.an (.nil (.ret ?_)))))
 exact .rb rfl (df (fun h=>by have h1:=h.name; have h2:=h.dH; have h3:=h.dr; have h4:=h.kq; have h5:=h.cG; have h6:=h.dM; have h7:=h.gM; first | omega | contradiction))
 refine .gw 29 (Y.qp gP U U) (.gw 29 (Y.zb pN U U U U) (.gw 29 (Y.qy (n:=n.aA.length) mw U fk) (.gw 29 (Y.qr U U) (.pk ?_))))
 refine .mv ?_
 refine .aG (d:=35) U (fun vo=>?_) (fun vo=>?_)
 refine .gz 35 (.gz 35 (.gz 35 (.gz 35 (.pk ?_))))
 refine .mv ?_
 refine .gz 41 (.gz 41 (.gz 41 (.gz 41 (.gz 41 (.gz 41 (.gz 41 (.pk ?_)))))))
 refine .mv ?_
 refine .gz 50 (.gz 50 (.gz 50 (.gz 50 (.gz 50 (.gz 50 (.gz 50 (.pk ?_)))))))
 refine .nil (.bf U (.sr (.an (.nil (.ret ?_)))))
 exact .rb rfl (df (fun h=>by have h1:=h.name; have h2:=h.dH; have h3:=h.dr; have h4:=h.kq; have h5:=h.cG; have h6:=h.dM; have h7:=h.gM; first | omega | contradiction))
 refine .gw 35 (Y.qp eI U U) (.gw 35 (Y.zb l6 U U U U) (.gw 35 (Y.qy (n:=n.streams.length) jz U fk) (.gw 35 (Y.qr U U) (.pk ?_))))
 refine .mv ?_
 refine .aG (d:=41) U (fun Gn=>?_) (fun Gn=>?_)
 refine .gz 41 (.gz 41 (.gz 41 (.gz 41 (.gz 41 (.gz 41 (.gz 41 (.pk ?_)))))))
 refine .mv ?_
 refine .gz 50 (.gz 50 (.gz 50 (.gz 50 (.gz 50 (.gz 50 (.gz 50 (.pk ?_)))))))
 refine .nil (.bf U (.sr (.an (.nil (.ret ?_)))))
 exact .rb rfl (df (fun h=>by have h1:=h.name; have h2:=h.dH; have h3:=h.dr; have h4:=h.kq; have h5:=h.cG; have h6:=h.dM; have h7:=h.gM; first | omega | contradiction))
 refine .gw 41 (Y.qp nE U U) (.gw 41 (Y.zb bu U U U U) (.gw 41 (Y.qy (n:=n.ba.length) az U fk) (.gw 41 (Y.qp eI U U) (.gw 41 (Y.zb l6 U U U U) (.gw 41 (Y.qy (n:=n.streams.length) jz U fk) (.gw 41 (Y.zl U U) (.pk ?_)))))))
 refine .mv ?_
 refine .aG (d:=50) U (fun TI=>?_) (fun TI=>?_)
 refine .gz 50 (.gz 50 (.gz 50 (.gz 50 (.gz 50 (.gz 50 (.gz 50 (.pk ?_)))))))
 refine .nil (.bf U (.sr (.an (.nil (.ret ?_)))))
 exact .rb rfl (df (fun h=>by have h1:=h.name; have h2:=h.dH; have h3:=h.dr; have h4:=h.kq; have h5:=h.cG; have h6:=h.dM; have h7:=h.gM; first | omega | contradiction))
 refine .gw 50 (Y.qp nG U U) (.gw 50 (Y.zb bu U U U U) (.gw 50 (Y.qy (n:=n.data.length) az U fk) (.gw 50 (Y.qp eI U U) (.gw 50 (Y.zb l6 U U U U) (.gw 50 (Y.qy (n:=n.streams.length) jz U fk) (.gw 50 (Y.zl U U) (.pk ?_)))))))
 refine .nil (.a8 U (fun RL=>?_) (fun RL=>?_))
 refine .sr (.an (.nil (.ret ?_)))
 exact .rb rfl (df (fun h=>by have h1:=h.name; have h2:=h.dH; have h3:=h.dr; have h4:=h.kq; have h5:=h.cG; have h6:=h.dM; have h7:=h.gM; first | omega | contradiction))
 refine .skip (.seq (.sr (.fa cg ?_)))
 refine .ld bu ?_
 refine .fa mr ?_
 refine .ld bu ?_
 refine .buildSlice (([n.aa,n.ins]:List (List Int)).map bG) cb mQ U U U U U (aj (s:=1) (f:=bG) (fun _=>U)) U U U ae ?_
 refine .sh (Sh.bS (d:=63) (([n.aa,n.ins]:List (List Int)).map bG) U fI (bN.map eb)) (.bm JG (sZ (ls:=([n.aa,n.ins]:List (List Int))) (by simp) (by simp; omega)) U (.ai U U .nil) ae U (.vl (Y.qy (n:=(([n.aa,n.ins]:List (List Int)).flatten).length) az U fk) (.mv ?_)))
 refine .nil (.block (.sh (Sh.bS (d:=64) ((([n.aa,n.ins]:List (List Int)).flatten).map ag) U fI (bN.map aE)) ?_))
 refine .kO (fun (oY:Nat)=>⟨[(1,.ptr 101 0 0 0),(64,.fz 1 ((([n.aa,n.ins]:List (List Int)).flatten).map ag)),(65,vi (((([n.aa,n.ins]:List (List Int)).flatten).length:Nat):Int)),(66,vi oY)],[(101,.cells (ab.row n))]⟩) (fun oY=>((oY:Int) <= (((([n.aa,n.ins]:List (List Int)).flatten).length:Nat):Int)) /\ (∀ j,j < oY -> dO (([n.aa,n.ins]:List (List Int)).flatten.getD j 0))) (fun oY=>((((([n.aa,n.ins]:List (List Int)).flatten).length:Nat):Int) - (oY:Int)).toNat) 0 (⟨om,fun j hj=>by omega⟩) (Le.mk (.c2 (.c (.cons (ak U bj) .nil))) (.c .nil)) (fun oY IY=>?_)
 obtain ⟨Kd,hw⟩:=IY
 refine .sr (.vl (Y.zd U U) (.nil (.seq (.a8 U (fun LH=>?_) (fun LH=>?_)))))
 refine .skip (.seq (.block (.sr (.vl (Y.qt (m:=oY) az U U bj (aq (d:=0) om)) (.ld bw ?_)))))
 refine .an (.nil (.sr ?_))
 refine .mv ?_
 refine .bm Ff (s8 (w:=((([n.aa,n.ins]:List (List Int)).flatten).getD oY 0))) U (.ai U U .nil) ae U (.vl (Y.zn U) (.nil (.kM U (fun TJ=>?_) (fun TJ=>?_))))
 refine .sr (.an (.nil (.ret ?_)))
 exact .rb rfl (df (fun h=>by have h1:=h.wide oY (by rw [List.length_append]; omega); rw [<- Qg] at h1; contradiction))
 refine .skip (.region (.vl (Y.qb U U om) (.mv ?_)))
 refine .nil (⟨oY + 1,⟨om,eK hw cU⟩,om,Le.mk (.c2 (.c (.cons (ak U bj) .nil))) (.c .nil)⟩)
 refine .exit (.seq (.sr (.fa gP ?_)))
 refine .ld pN ?_
 refine .vl (Y.qy (n:=n.aA.length) mw U fk) (.mv ?_)
 refine .nil (.block (.kO (fun (gD:Nat)=>⟨[(1,.ptr 101 0 0 0),(75,.fz 5 (n.aA.map dW.row)),(76,vi n.aA.length),(77,vi gD)],[(101,.cells (ab.row n))]⟩) (fun gD=>((gD:Int) <= (n.aA.length:Int)) /\ (∀ j,j < gD -> mM (n.aA.getD j default))) (fun gD=>((n.aA.length:Int) - (gD:Int)).toNat) 0 (⟨om,fun j hj=>by omega⟩) (Le.mk (.c2 (.c (.cons (ak U bj) .nil))) (.c .nil)) (fun gD LI=>?_)))
 obtain ⟨TK,hm⟩:=LI
 refine .sr (.vl (Y.zd U U) (.nil (.seq (.a8 U (fun Qh=>?_) (fun Qh=>?_)))))
 refine .skip (.seq (.block (.sr (.vl (Y.qt (m:=gD) mw U U bj (aq (d:=default) om)) (.vl (Y.zc OO U U (aL U) U U) (.alloc 106 nY U U ae (.ao OP U U U U U U (aL U) U ?_)))))))
 refine .nil (.sr ?_)
 have hmn:=hs.mK _ (ic (l:=n.aA) (i:=gD) (d:=default) om)
 refine .fa Ie ?_
 refine .ld Tb ?_
 refine .bm Fe (qL (s:=((n.aA.getD gD default).name)) (by first | assumption | omega)) U (.ai U U .nil) ae U (.vl (Y.zn U) (.mv ?_))
 refine .sn (d:=85) U (fun Zd=>?_) (fun Zd=>?_)
 refine .gz 85 (.gz 85 (.gz 85 (.gz 85 (.pk ?_))))
 refine .mv ?_
 refine .gz 91 (.gz 91 (.gz 91 (.pk ?_)))
 refine .mv ?_
 refine .gz 96 (.gz 96 (.gz 96 (.pk ?_)))
 refine .mv ?_
 refine .gz 101 (.gz 101 (.gz 101 (.pk ?_)))
 refine .mv ?_
 refine .gz 106 (.gz 106 (.gz 106 (.pk ?_)))
 refine .nil (.bf U (.sr (.an (.nil (.ret ?_)))))
 exact .rb rfl (df (fun h=>by have h1:=h.aA gD om; unfold mM at h1; obtain ⟨a1,a2,a3,a4,a5,a6⟩:=h1; first | contradiction | omega))
 refine .gw 85 (Y.qp rz U U) (.gw 85 (Y.zb bw U U U U) (.aX (d:=85) U ae U ?_))
 refine .bm Ff (s8 (w:=((n.aA.getD gD default).width))) U (.ai U U .nil) ae U (.gw 85 (Y.zn U) (.pk ?_))
 refine .mv ?_
 refine .sn (d:=91) U (fun Ze=>?_) (fun Ze=>?_)
 refine .gz 91 (.gz 91 (.gz 91 (.pk ?_)))
 refine .mv ?_
 refine .gz 96 (.gz 96 (.gz 96 (.pk ?_)))
 refine .mv ?_
 refine .gz 101 (.gz 101 (.gz 101 (.pk ?_)))
 refine .mv ?_
 refine .gz 106 (.gz 106 (.gz 106 (.pk ?_)))
 refine .nil (.bf U (.sr (.an (.nil (.ret ?_)))))
 exact .rb rfl (df (fun h=>by have h1:=h.aA gD om; unfold mM at h1; obtain ⟨a1,a2,a3,a4,a5,a6⟩:=h1; first | contradiction | omega))
 refine .gw 91 (Y.qp BV U U) (.gw 91 (Y.zb bw U U U U) (.gw 91 (Y.zd U U) (.pk ?_)))
 refine .mv ?_
 refine .aG (d:=96) U (fun TL=>?_) (fun TL=>?_)
 refine .gz 96 (.gz 96 (.gz 96 (.pk ?_)))
 refine .mv ?_
 refine .gz 101 (.gz 101 (.gz 101 (.pk ?_)))
 refine .mv ?_
 refine .gz 106 (.gz 106 (.gz 106 (.pk ?_)))
 refine .nil (.bf U (.sr (.an (.nil (.ret ?_)))))
 exact .rb rfl (df (fun h=>by have h1:=h.aA gD om; unfold mM at h1; obtain ⟨a1,a2,a3,a4,a5,a6⟩:=h1; first | contradiction | omega))
 refine .gw 96 (Y.qp BV U U) (.gw 96 (Y.zb bw U U U U) (.gw 96 (Y.qr U U) (.pk ?_)))
 refine .mv ?_
 refine .aG (d:=101) U (fun TM=>?_) (fun TM=>?_)
 refine .gz 101 (.gz 101 (.gz 101 (.pk ?_)))
 refine .mv ?_
 refine .gz 106 (.gz 106 (.gz 106 (.pk ?_)))
 refine .nil (.bf U (.sr (.an (.nil (.ret ?_)))))
 exact .rb rfl (df (fun h=>by have h1:=h.aA gD om; unfold mM at h1; obtain ⟨a1,a2,a3,a4,a5,a6⟩:=h1; first | contradiction | omega))
 refine .gw 101 (Y.qp Ig U U) (.gw 101 (Y.zb bw U U U U) (.gw 101 (Y.zl U U) (.pk ?_)))
 refine .mv ?_
 refine .aG (d:=106) U (fun TN=>?_) (fun TN=>?_)
 refine .gz 106 (.gz 106 (.gz 106 (.pk ?_)))
 refine .nil (.bf U (.sr (.an (.nil (.ret ?_)))))
 exact .rb rfl (df (fun h=>by have h1:=h.aA gD om; unfold mM at h1; obtain ⟨a1,a2,a3,a4,a5,a6⟩:=h1; first | contradiction | omega))
 refine .gw 106 (Y.qp Ih U U) (.gw 106 (Y.zb bw U U U U) (.gw 106 (Y.zl U U) (.pk ?_)))
 refine .nil (.a8 U (fun Gp=>?_) (fun Gp=>?_))
 refine .sr (.an (.nil (.ret ?_)))
 exact .rb rfl (df (fun h=>by have h1:=h.aA gD om; unfold mM at h1; obtain ⟨a1,a2,a3,a4,a5,a6⟩:=h1; first | contradiction | omega))
 refine .skip (.region (.vl (Y.qb U U om) (.mv ?_)))
 refine .nil ?_
 exact ⟨gD + 1,⟨om,eK hm (by unfold mM; refine ⟨?_,?_,?_,?_,?_,?_⟩ <;> first | assumption | omega)⟩,om,Le.mk (.c2 (.c (.cons (ak U bj) .nil))) (.c .nil)⟩
 refine .exit (.sr (.sh (Sh.dD 101 U U) (.vl (Y.ze U U U U) (.alloc 107 Td U U ae (.ao Tc U U U U U U (aL U) U ?_)))))
 refine .nil (.seq (.seq (.sh (Sh.dD 107 U U) (.region (.fa eI ?_)))))
 refine .ld l6 ?_
 refine .vl (Y.qy (n:=n.streams.length) jz U fk) (.mv ?_)
 refine .nil (.block (.kO (fun (bt:Nat)=>⟨[(1,.fp (ab.row n) 0),(7,.fp ([.jv (.func 156) [] [.fp (ab.row n) 0]]) 0),(114,.fz 3 (n.streams.map b8.row)),(115,vi n.streams.length),(116,vi bt)],[]⟩) (fun bt=>((bt:Int) <= (n.streams.length:Int)) /\ (∀ j,j < bt -> lV n j)) (fun bt=>((n.streams.length:Int) - (bt:Int)).toNat) 0 (⟨om,fun j hj=>by omega⟩) (Le.mk (.c4 (.cons (ak U bj) .nil)) .nil) (fun bt LJ=>?_)))
 obtain ⟨TO,Em⟩:=LJ
 refine .sr (.vl (Y.zd U U) (.nil (.seq (.a8 U (fun mU=>?_) (fun mU=>?_)))))
 refine .skip ?_
 refine .ED (fun (uK:Bool) (uL:Bool) (uM:Bool) (uN:Bool)=>⟨[(1,.fp (ab.row n) 0),(7,.fp ([.jv (.func 156) [] [.fp (ab.row n) 0]]) 0),(114,.fz 3 (n.streams.map b8.row)),(115,vi n.streams.length),(116,vi bt),(126,.ptr 109 0 0 1),(127,vi ((n.streams.getD bt default).width)),(128,.v (.bool (decide (dO ((n.streams.getD bt default).width))))),(129,.v (.bool (!decide (dO ((n.streams.getD bt default).width))))),(132,.jv (.func 156) [] [.fp (ab.row n) 0]),(133,.fp (ab.row n) 6),(134,.fz 1 (n.ba.map ag)),(135,vi bt),(136,.fp (ag (n.ba.getD bt 0)) 0),(137,vi (n.ba.getD bt 0)),(138,.v (.bool (decide (In (n.ba.getD bt 0) n.aa.length)))),(139,.v (.bool (!decide (In (n.ba.getD bt 0) n.aa.length)))),(142,.ptr 109 0 0 2),(143,.v (.bool ((n.streams.getD bt default).out))),(144,.v (.bool uK)),(153,.v (.bool uL)),(156,.ptr 109 0 0 2),(157,.v (.bool ((n.streams.getD bt default).out))),(158,.v (.bool (!((n.streams.getD bt default).out)))),(159,.v (.bool uM)),(166,.v (.bool uN))],[(109,.cells [.v (.string ((n.streams.getD bt default).name)),vi ((n.streams.getD bt default).width),.v (.bool ((n.streams.getD bt default).out))])]⟩) (fun uK uL uM uN=>lV n bt) ?_ (fun uK uL uM uN AR=>?_)
 refine .block (.sr ?_)
 have hsn:=hs.mL _ (ic (l:=n.streams) (i:=bt) (d:=default) om)
 refine .mv ?_
 refine .vl (Y.qt (m:=bt) jz U U bj (aq (d:=default) om)) (.vl (Y.zc JJ U U (aL U) U U) (.alloc 109 mP U U ae ?_))
 refine .an ?_
 refine .ao JK U U U U U U (aL U) U (.nil (.seq (.dS U (.bX (n:=45) [0,1] [2,3,4,5,6,7,8,9,10,11,12,13,14,15,16,17,18,19,20,21,22,23,24,25,26,27,28,29,30,31,32,33,34,35,36,37,38,39,40,41,42,43,44,45,46] 2 U au (.cn 0 U (Y.qp Ii U U) (.cn 1 U (Y.zb Tb U U U U) (.nil (.one 2 U au (.bm Fe (qL (s:=((n.streams.getD bt default).name)) (by first | assumption | omega)) U (.ai U U .nil) ae U ?_)))))))))
 refine .nil ⟨U,(.bX (n:=40) [3,4,5,6] [7,8,9,10,11,12,13,14,15,16,17,18,19,20,21,22,23,24,25,26,27,28,29,30,31,32,33,34,35,36,37,38,39,40,41,42,43,44,45,46] 7 U au (.cn 3 U (Y.zn U) (.cn 4 U (Y.zh U U) (.split (d:=125) U (fun Gq=>?_) (fun Gq=>?_)))))⟩
 replace Gq:¬ (nW ((n.streams.getD bt default).name)):=by simpa using Gq
 refine .sk 5 U U U U (.sk 6 U U U U (.nil (.ck 7 U au U ae ae U U (.ck 8 U au U ae ae U U (.bX (n:=30) [9,10,11,12,13,14,15,16] [17,18,19,20,21,22,23,24,25,26,27,28,29,30,31,32,33,34,35,36,37,38,39,40,41,42,43,44,45,46] 17 U au ?_)))))
 refine .cn 9 U (Y.zo U U U) (.cn 10 U (Y.zh U U) (.sk 11 U U U U (.sk 12 U U U U (.sk 13 U U U U (.sk 14 U U U U (.sk 15 U U U U (.sk 16 U U U U (.nil (.ck 17 U au U ae ae U U (.ck 18 U au U ae ae U U (.bX (n:=17) [19,20,21,22,23,24,25,26,27,28,29] [30,31,32,33,34,35,36,37,38,39,40,41,42,43,44,45,46] 30 U au ?_)))))))))))
 refine .cn 19 U (Y.zo U U U) (.cn 20 U (Y.zh U U) (.sk 21 U U U U (.sk 22 U U U U (.sk 23 U U U U (.sk 24 U U U U (.sk 25 U U U U (.sk 26 U U U U (.sk 27 U U U U (.sk 28 U U U U (.sk 29 U U U U (.nil (.ck 30 U au U ae ae U U (.ck 31 U au U ae ae U U (.ck 32 U au U ae ae U U ?_))))))))))))))
 refine .bX (n:=0) [33,34,35,36,37,38,39,40,41,42,43,44,45,46] [] 0 U au (.cn 33 U (Y.zo U U U) (.cn 34 U (Y.zh U U) (.sk 35 U U U U (.sk 36 U U U U (.sk 37 U U U U (.sk 38 U U U U (.sk 39 U U U U (.sk 40 U U U U (.sk 41 U U U U (.sk 42 U U U U (.sk 43 U U U U (.sk 44 U U U U (.sk 45 U U U U (.cn 46 U (Y.zo U U U) (.nil (.done au (.bf U ?_)))))))))))))))))
 refine .sr (.an (.nil (.ret ?_)))
 exact .rb rfl (df (fun h=>by have h1:=h.strs bt om; unfold lV at h1; obtain ⟨a1,a2,a3,a4,a5⟩:=h1; first | contradiction | grind))
 replace Gq:nW ((n.streams.getD bt default).name):=by simpa using Gq
 refine .rn 5 U U U (Y.qp r3 U U) (.rn 6 U U U (Y.zb bw U U U U) (.nil (.one 7 U au (.aX (d:=125) U ae U (.bm Ff (s8 (w:=((n.streams.getD bt default).width))) U (.ai U U .nil) ae U ?_)))))
 refine .nil ⟨U,(.bX (n:=30) [8,9,10,11,12,13,14,15,16] [17,18,19,20,21,22,23,24,25,26,27,28,29,30,31,32,33,34,35,36,37,38,39,40,41,42,43,44,45,46] 17 U au (.rn 8 U U U (Y.zn U) (.cn 9 U (Y.zo U U U) (.cn 10 U (Y.zh U U) (.split (d:=131) U (fun qO=>?_) (fun qO=>?_))))))⟩
 replace qO:¬ (dO ((n.streams.getD bt default).width)):=by simpa using qO
 refine .sk 11 U U U U (.sk 12 U U U U (.sk 13 U U U U (.sk 14 U U U U (.sk 15 U U U U (.sk 16 U U U U (.nil (.ck 17 U au U ae ae U U (.ck 18 U au U ae ae U U ?_))))))))
 refine .bX (n:=17) [19,20,21,22,23,24,25,26,27,28,29] [30,31,32,33,34,35,36,37,38,39,40,41,42,43,44,45,46] 30 U au (.cn 19 U (Y.zo U U U) (.cn 20 U (Y.zh U U) (.sk 21 U U U U (.sk 22 U U U U (.sk 23 U U U U (.sk 24 U U U U (.sk 25 U U U U (.sk 26 U U U U (.sk 27 U U U U (.sk 28 U U U U (.sk 29 U U U U (.nil (.ck 30 U au U ae ae U U (.ck 31 U au U ae ae U U ?_))))))))))))))
 refine .ck 32 U au U ae ae U U (.bX (n:=0) [33,34,35,36,37,38,39,40,41,42,43,44,45,46] [] 0 U au (.cn 33 U (Y.zo U U U) (.cn 34 U (Y.zh U U) (.sk 35 U U U U (.sk 36 U U U U (.sk 37 U U U U (.sk 38 U U U U (.sk 39 U U U U (.sk 40 U U U U (.sk 41 U U U U (.sk 42 U U U U (.sk 43 U U U U (.sk 44 U U U U (.sk 45 U U U U (.cn 46 U (Y.zo U U U) (.nil (.done au (.bf U (.sr (.an (.nil (.ret ?_))))))))))))))))))))))
 exact .rb rfl (df (fun h=>by have h1:=h.strs bt om; unfold lV at h1; obtain ⟨a1,a2,a3,a4,a5⟩:=h1; first | contradiction | grind))
 replace qO:dO ((n.streams.getD bt default).width):=by simpa using qO
 refine .rn 11 U U U (Y.zb Aw U U U U) (.rn 12 U U U (Y.qp nE U U) (.rn 13 U U U (Y.zb bu U U U U) ?_))
 refine .rn 14 U U U (Y.zh U U) (.rn 15 U U U (Y.qt (m:=bt) az U U bj (aq (d:=0) om)) ?_)
 refine .rn 16 U U U (Y.zb bw U U U U) (.nil (.one 17 U au (.aX (d:=131) U ae U (.n7 U uu (gr (i:=(n.ba.getD bt 0))) U (.ai U U (.ai U U .nil)) ae U ?_))))
 refine .nil ⟨U,(.bX (n:=17) [18,19,20,21,22,23,24,25,26,27,28,29] [30,31,32,33,34,35,36,37,38,39,40,41,42,43,44,45,46] 30 U au (.rn 18 U U U (Y.zn U) (.cn 19 U (Y.zo U U U) (.cn 20 U (Y.zh U U) (.split (d:=141) U (fun Gs=>?_) (fun Gs=>?_))))))⟩
 replace Gs:¬ (In (n.ba.getD bt 0) n.aa.length):=by simpa using Gs
 refine .sk 21 U U U U (.sk 22 U U U U (.sk 23 U U U U (.sk 24 U U U U (.sk 25 U U U U (.sk 26 U U U U (.sk 27 U U U U (.sk 28 U U U U (.sk 29 U U U U (.nil (.ck 30 U au U ae ae U U (.ck 31 U au U ae ae U U ?_)))))))))))
 refine .ck 32 U au U ae ae U U (.bX (n:=0) [33,34,35,36,37,38,39,40,41,42,43,44,45,46] [] 0 U au (.cn 33 U (Y.zo U U U) (.cn 34 U (Y.zh U U) (.sk 35 U U U U (.sk 36 U U U U (.sk 37 U U U U (.sk 38 U U U U (.sk 39 U U U U (.sk 40 U U U U (.sk 41 U U U U (.sk 42 U U U U (.sk 43 U U U U (.sk 44 U U U U (.sk 45 U U U U (.cn 46 U (Y.zo U U U) (.nil (.done au (.bf U (.sr (.an (.nil (.ret ?_))))))))))))))))))))))
 exact .rb rfl (df (fun h=>by have h1:=h.strs bt om; unfold lV at h1; obtain ⟨a1,a2,a3,a4,a5⟩:=h1; first | contradiction | grind))
 replace Gs:In (n.ba.getD bt 0) n.aa.length:=by simpa using Gs
 refine .rn 21 U U U (Y.qp kf U U) (.rn 22 U U U (Y.zb Dd U U U U) (.rn 23 U U U (Y.zh U U) ?_))
 refine .split (d:=144) U (fun IZ=>?_) (fun IZ=>?_)
 refine .rn 24 U U U (Y.zb Aw U U U U) (.rn 25 U U U (Y.qp nG U U) (.rn 26 U U U (Y.zb bu U U U U) ?_))
 refine .rn 27 U U U (Y.zh U U) (.rn 28 U U U (Y.qt (m:=bt) az U U bj (aq (d:=0) om)) ?_)
 refine .rn 29 U U U (Y.zb bw U U U U) (.nil (.one 30 U au (.aX (d:=144) U ae U (.n7 U uu (gr (i:=(n.data.getD bt 0))) U (.ai U U (.ai U U .nil)) ae U ?_))))
 refine .nil ⟨U,(.bX (n:=0) [31,32,33,34,35,36,37,38,39,40,41,42,43,44,45,46] [] 0 U au (.rn 31 U U U (Y.zn U) (.rn 32 U U U (Y.zo U U U) ?_)))⟩
 refine .cn 33 U (Y.zo U U U) (.cn 34 U (Y.zh U U) (.split (d:=155) U (fun Gt=>?_) (fun Gt=>?_)))
 replace Gt:¬ (In (n.data.getD bt 0) n.aa.length):=by simpa using Gt
 refine .sk 35 U U U U (.sk 36 U U U U (.sk 37 U U U U (.sk 38 U U U U (.sk 39 U U U U (.sk 40 U U U U (.sk 41 U U U U (.sk 42 U U U U (.sk 43 U U U U (.sk 44 U U U U (.sk 45 U U U U (.cn 46 U (Y.zo U U U) (.nil (.done au (.bf U ?_))))))))))))))
 refine .sr (.an (.nil (.ret ?_)))
 exact .rb rfl (df (fun h=>by have h1:=h.strs bt om; unfold lV at h1; obtain ⟨a1,a2,a3,a4,a5⟩:=h1; first | contradiction | grind))
 replace Gt:In (n.data.getD bt 0) n.aa.length:=by simpa using Gt
 refine .rn 35 U U U (Y.qp kf U U) (.rn 36 U U U (Y.zb Dd U U U U) (.rn 37 U U U (Y.zn U) ?_))
 refine .rn 38 U U U (Y.zh U U) ?_
 refine .split (d:=159) U (fun nK=>?_) (fun nK=>?_)
 replace nK:((n.streams.getD bt default).out) = false:=by simpa using nK
 refine .rn 39 U U U (Y.qp nG U U) (.rn 40 U U U (Y.zb bu U U U U) (.rn 41 U U U (Y.zh U U) ?_))
 refine .rn 42 U U U (Y.qt (m:=bt) az U U bj (aq (d:=0) om)) ?_
 refine .rn 43 U U U (Y.zb bw U U U U) (.rn 44 U U U (Y.zl U U) (.rn 45 U U U (Y.zo U U U) ?_))
 refine .cn 46 U (Y.zo U U U) (.nil (.done au (.a8 U (fun Gu=>?_) (fun Gu=>?_))))
 refine .sr (.an (.nil (.ret ?_)))
 exact .rb rfl (df (fun h=>by have h1:=h.strs bt om; unfold lV at h1; obtain ⟨a1,a2,a3,a4,a5⟩:=h1; first | contradiction | grind))
 refine .skip ⟨true,(!decide (In (n.data.getD bt 0) n.aa.length)),true,decide ((n.data.getD bt 0) ≠ (-1)),by unfold lV; grind,Le.mk (.c8 (.c8 (.c2 (.c (.cons (bz U o3) (.cons (bz U o3) (.c2 (.c (.cons (bz U o3) (.cons (bz U o3) .nil)))))))))) (.c .nil)⟩
 replace nK:((n.streams.getD bt default).out) = true:=by simpa using nK
 exact .sk 39 U U U U (.sk 40 U U U U (.sk 41 U U U U (.sk 42 U U U U (.sk 43 U U U U (.sk 44 U U U U (.rn 45 U U U (Y.zo U U U) (.cn 46 U (Y.zo U U U) (.nil (.done au (.dA U (.skip ⟨true,(!decide (In (n.data.getD bt 0) n.aa.length)),false,false,by unfold lV; grind,Le.mk (.c8 (.c8 (.c2 (.c (.cons (bz U o3) (.cons (bz U o3) (.c2 (.c (.cons (bz U o3) (.cons (bz U o3) .nil)))))))))) (.c .nil)⟩)))))))))))
 refine .sk 24 U U U U (.sk 25 U U U U (.sk 26 U U U U (.sk 27 U U U U (.sk 28 U U U U (.sk 29 U U U U (.nil (.ck 30 U au U ae ae U U (.ck 31 U au U ae ae U U ?_))))))))
 refine .bX (n:=0) [32,33,34,35,36,37,38,39,40,41,42,43,44,45,46] [] 0 U au (.rn 32 U U U (Y.zo U U U) (.cn 33 U (Y.zo U U U) (.cn 34 U (Y.zh U U) (.rn 35 U U U (Y.qp kf U U) (.rn 36 U U U (Y.zb Dd U U U U) ?_)))))
 refine .rn 37 U U U (Y.zn U) (.rn 38 U U U (Y.zh U U) ?_)
 refine .split (d:=159) U (fun nK=>?_) (fun nK=>?_)
 replace nK:((n.streams.getD bt default).out) = false:=by simpa using nK
 refine .rn 39 U U U (Y.qp nG U U) (.rn 40 U U U (Y.zb bu U U U U) (.rn 41 U U U (Y.zh U U) ?_))
 refine .rn 42 U U U (Y.qt (m:=bt) az U U bj (aq (d:=0) om)) ?_
 refine .rn 43 U U U (Y.zb bw U U U U) (.rn 44 U U U (Y.zl U U) (.rn 45 U U U (Y.zo U U U) ?_))
 refine .cn 46 U (Y.zo U U U) (.nil (.done au (.a8 U (fun Gu=>?_) (fun Gu=>?_))))
 refine .sr (.an (.nil (.ret ?_)))
 exact .rb rfl (df (fun h=>by have h1:=h.strs bt om; unfold lV at h1; obtain ⟨a1,a2,a3,a4,a5⟩:=h1; first | contradiction | grind))
 refine .skip ⟨false,false,true,decide ((n.data.getD bt 0) ≠ (-1)),by unfold lV; grind,Le.mk (.c8 (.c8 (.c2 (.c (.cons (bz U o3) (.cons (bz U o3) (.c2 (.c (.cons (bz U o3) (.cons (bz U o3) .nil)))))))))) (.c .nil)⟩
 replace nK:((n.streams.getD bt default).out) = true:=by simpa using nK
 exact .sk 39 U U U U (.sk 40 U U U U (.sk 41 U U U U (.sk 42 U U U U (.sk 43 U U U U (.sk 44 U U U U (.rn 45 U U U (Y.zo U U U) (.cn 46 U (Y.zo U U U) (.nil (.done au (.dA U (.skip ⟨false,false,false,false,by unfold lV; grind,Le.mk (.c8 (.c8 (.c2 (.c (.cons (bz U o3) (.cons (bz U o3) (.c2 (.c (.cons (bz U o3) (.cons (bz U o3) .nil)))))))))) (.c .nil)⟩)))))))))))
 refine .region (.vl (Y.qb U U om) (.mv ?_))
 refine .nil (⟨bt + 1,⟨om,eK Em AR⟩,om,Le.mk (.c4 (.cons (ak U bj) .nil)) .nil⟩)
 refine .exit (.seq (.sr (.ld Aw ?_)))
 refine .fa mu ?_
 refine .ld bw ?_
 refine .n7 U uu (gr (i:=n.freeze)) U (.ai U U (.ai U U .nil)) ae U (.vl (Y.zn U) (.mv ?_))
 refine .sn (d:=174) U (fun TP=>?_) (fun TP=>?_)
 refine .gz 174 (.gz 174 (.gz 174 (.gz 174 (.gz 174 (.pk ?_)))))
 refine .mv ?_
 refine .gz 181 (.gz 181 (.gz 181 (.gz 181 (.pk ?_))))
 refine .nil (.bf U (.sr (.an (.nil (.ret ?_)))))
 exact .rb rfl (df (fun h=>by have h1:=h.freeze; have h2:=h.done; contradiction))
 refine .gw 174 (Y.zb Aw U U U U) (.gw 174 (Y.qp w8 U U) (.gw 174 (Y.zb bw U U U U) (.aX (d:=174) U ae U (.n7 U uu (gr (i:=n.done)) U (.ai U U (.ai U U .nil)) ae U (.gw 174 (Y.zn U) (.pk ?_))))))
 refine .mv ?_
 refine .sn (d:=181) U (fun TQ=>?_) (fun TQ=>?_)
 refine .gz 181 (.gz 181 (.gz 181 (.gz 181 (.pk ?_))))
 refine .nil (.bf U (.sr (.an (.nil (.ret ?_)))))
 exact .rb rfl (df (fun h=>by have h1:=h.freeze; have h2:=h.done; contradiction))
 refine .gw 181 (Y.qp nD U U) (.gw 181 (Y.zb bu U U U U) (.gw 181 (Y.ze U U U U) (.aX (d:=181) U ae U ?_)))
 refine .bm JH (kv (l:=n.bF) (p:=fun z=>!decide (In z n.aa.length)) (om) O9 (fun z _=>wY)) U (.ai U U (.ai U U .nil)) ae U ?_
 refine .pk ?_
 refine .nil (.cond U (fun LK=>?_) (fun LK=>?_))
 refine .sr (.an (.nil (.ret ?_)))
 exact .rb rfl (df (fun h=>absurd h.bF (p4.1 cU)))
 refine .skip (.sr (.fa cg ?_))
 refine .ld bu ?_
 refine .vl (Y.qy (n:=n.aa.length) az U fk) (.makeSlice (n:=n.aa.length) yg Xh U U U U om om ae ?_)
 refine .cj U ae (.sh (Sh.cz (d:=10) (n:=n.aa.length) 110 ((List.replicate n.aa.length false).map oo) U fI (aF (by simp)) ae) (.nil (.seq (.sr (.fa cK ?_)))))
 refine .ld iz ?_
 refine .vl (Y.qy (n:=n.cells.length) dZ U fk) (.mv ?_)
 refine .nil (.block (.fH (fun (cD:Nat) (ei:List Bool)=>⟨[(1,.fp (ab.row n) 0),(7,.fp ([.jv (.func 156) [] [.fp (ab.row n) 0]]) 0),(10,.aR 110 1 0 n.aa.length),(192,.fz 6 (n.cells.map Cell.row)),(193,vi n.cells.length),(194,vi cD)],[(110,.rows 1 (ei.map oo))]⟩) (fun cD ei=>(ei.length = n.aa.length) /\ ((cD:Int) <= (n.cells.length:Int)) /\ (xv n cD ei) /\ (∀ j,j < cD -> jO n (n.cells.getD j default))) (fun cD ei=>((n.cells.length:Int) - (cD:Int)).toNat) 0 (List.replicate n.aa.length false) (⟨jE,jE,xv.init n,fun j hj=>by omega⟩) (Le.mk (.c4 (.c (.cons (ak U bj) .nil))) (.c .nil)) (fun cD ei LL=>?_)))
 obtain ⟨Ke,TR,hd,hc⟩:=LL
 refine .sr (.vl (Y.zd U U) (.nil (.seq (.a8 U (fun TS=>?_) (fun TS=>?_)))))
 refine .skip ?_
 refine .fS (fun (ig:List Bool)=>⟨[(1,.fp (ab.row n) 0),(7,.fp ([.jv (.func 156) [] [.fp (ab.row n) 0]]) 0),(10,.aR 110 1 0 n.aa.length),(192,.fz 6 (n.cells.map Cell.row)),(193,vi n.cells.length),(194,vi cD),(203,.agg [.v (.string n.name),.fz 1 (n.aa.map ag),.fz 6 (n.cells.map Cell.row),.fz 1 (n.ins.map ag),.fz 5 (n.aA.map dW.row),.fz 3 (n.streams.map b8.row),.fz 1 (n.ba.map ag),.fz 1 (n.data.map ag),vi n.freeze,vi n.done,.fz 1 (n.bF.map ag)]),(204,.agg [vi ((n.cells.getD cD default).kind),vi ((n.cells.getD cD default).op),vi ((n.cells.getD cD default).out),.fz 1 (((n.cells.getD cD default).args).map ag),.v (.int .u64 (((n.cells.getD cD default).num:Nat):Int)),vi ((n.cells.getD cD default).mem)]),(205,.v (.bool (decide (Shaped n (n.cells.getD cD default))))),(206,.v (.bool (!decide (Shaped n (n.cells.getD cD default)))))],[(110,.rows 1 (ig.map oo))]⟩) (fun ig=>(ig.length = n.aa.length) /\ (jO n (n.cells.getD cD default) /\ xv n (cD + 1) ig)) ?_ (fun ig Qi=>?_)
 refine .block (.sr (.vl (Y.qt (m:=cD) dZ U U bj (aq (d:=default) om)) (.vl (Y.zc fq U U (aL U) U U) (.alloc 112 e8 U U ae (.ao fJ U U U U U U (aL U) U ?_)))))
 refine .nil (.seq (.sr ?_))
 have Zf:=hs.args (n.cells.getD cD default) (ic om)
 refine .fa cd ?_
 refine .ld bu ?_
 refine .vl (Y.ze U U U U) (.bm JH (kv (l:=((n.cells.getD cD default).args)) (p:=fun z=>!decide (In z n.aa.length)) (om) OA (fun z _=>wZ)) U (.ai U U (.ai U U .nil)) ae U ?_)
 refine .mv ?_
 refine .split (d:=202) U (fun TT=>?_) (fun TT=>?_)
 refine .gz 202 (.gz 202 (.gz 202 (.gz 202 (.pk ?_))))
 refine .nil (.bf U (.sr (.an (.nil (.ret ?_)))))
 exact .rb rfl (df (fun h=>by have h1:=h.cells cD om; obtain ⟨a1,a2,a3,a4⟩:=h1; first | contradiction | exact absurd a1 (p4.1 cU) | (have:=a3 cU; contradiction) | (have:=a4 cU; contradiction)))
 refine .gw 202 (Y.zc er U U (aL U) U U) (.gw 202 (Y.zc fq U U (aL U) U U) (.aX (d:=202) U ae U ?_))
 refine .bm OB (yE (n:=n) (c:=(n.cells.getD cD default)) hs (by first | assumption | omega)) U (.ai U U (.ai U U .nil)) ae U (.gw 202 (Y.zn U) (.pk ?_))
 refine .nil (.kM U (fun TU=>?_) (fun TU=>?_))
 refine .sr (.an (.nil (.ret ?_)))
 exact .rb rfl (df (fun h=>by have h1:=h.cells cD om; obtain ⟨a1,a2,a3,a4⟩:=h1; first | contradiction | exact absurd a1 (p4.1 cU) | (have:=a3 cU; contradiction) | (have:=a4 cU; contradiction)))
 refine .skip (.seq (.sr (.fa du ?_)))
 refine .ld bw ?_
 refine .vl (Y.qm U U) (.nil (.a8 U (fun TV=>?_) (fun TV=>?_)))
 refine .seq (.sr (.fa eR ?_))
 refine .ld bw ?_
 refine .vl (Y.zl U U) (.nil (.a8 U (fun TW=>?_) (fun TW=>?_)))
 refine .sr (.an (.nil (.ret ?_)))
 exact .rb rfl (df (fun h=>by have h1:=h.cells cD om; obtain ⟨a1,a2,a3,a4⟩:=h1; first | contradiction | exact absurd a1 (p4.1 cU) | (have:=a3 cU; contradiction) | (have:=a4 cU; contradiction)))
 exact .skip (.exit (⟨ei,⟨om,⟨⟨mq cU,cU,fun _=>by omega,fun h=>absurd cU h⟩,hd.skip om cU⟩⟩,Le.mk (.c8 (.c (.c .nil))) (.c .nil)⟩))
 refine .skip (.seq (.sr (.ld Aw ?_)))
 refine .fa eR ?_
 refine .ld bw ?_
 refine .n7 U uu (gr (i:=((n.cells.getD cD default).out))) U (.ai U U (.ai U U .nil)) ae U (.vl (Y.zn U) (.mv ?_))
 refine .sn (d:=219) U (fun TX=>?_) (fun TX=>?_)
 refine .gz 219 (.gz 219 (.gz 219 (.gz 219 (.gz 219 (.pk ?_)))))
 refine .nil (.bf U (.sr (.an (.nil (.ret ?_)))))
 exact .rb rfl (df (fun h=>by have h1:=h.cells cD om; obtain ⟨a1,a2,a3,a4⟩:=h1; first | contradiction | exact absurd a1 (p4.1 cU) | (have:=a3 cU; contradiction) | (have:=a4 cU; contradiction)))
 refine .gw 219 (Y.zh U U) (.gw 219 (Y.qp eR U U) (.gw 219 (Y.zb bw U U U U) (.gw 219 (Y.qu (m:=((n.cells.getD cD default).out).toNat) yg U U jE jE) (.gw 219 (Y.zb Dd U (aI (d:=false) jE) U U) (.pk ?_)))))
 refine .nil (.cond U (fun TZ=>?_) (fun TZ=>?_))
 refine .sr (.an (.nil (.ret ?_)))
 exact .rb rfl (df (fun h=>xv.dup hd om cU cU cU h))
 refine .skip (.region (.mv ?_))
 refine .fa eR ?_
 refine .ld bw ?_
 refine .vl (Y.qu (m:=((n.cells.getD cD default).out).toNat) yg U U jE jE) (.eH ((ei.set (((n.cells.getD cD default).out).toNat) true).map oo) Xg U U U U U U U (aI (d:=false) jE) (aL U) (cY U) (.nil (⟨ei.set (((n.cells.getD cD default).out).toNat) true,⟨jE,⟨⟨mq cU,cU,fun h=>absurd h cU,fun _=>by assumption⟩,hd.step om cU cU Ke cU⟩⟩,Le.mk (.c8 (.c (.c .nil))) (.c .nil)⟩)))
 obtain ⟨MY,Ja⟩:=Qi
 refine .region (.vl (Y.qb U U om) (.mv ?_))
 refine .nil (⟨cD + 1,ig,⟨om,om,Ja.2,eK hc Ja.1⟩,om,Le.mk (.c4 (.c (.cons (ak U bj) .nil))) (.c .nil)⟩)
 refine .exit (.sr (.mv ?_))
 refine .jL [110] OC (rN (l:=ei) (b:=false) (om)) U (.cI U U (bB om) (bC om) (.ai U U .nil)) (kN U (br Aj)) ae U trivial (.vl (Y.zn U) (.an (.nil (.ret ?_))))
 exact .rb rfl (db ((xv.all (d:=ei) (by rw [show n.cells.length = cD by omega]; exact hd) Ke).trans ⟨fun h=>⟨cU,om,om,om,om,om,om,fun j hj=>by have:=hw j (by rw [List.length_append] at hj; omega); rw [Qg] at this; exact this,fun j hj=>hm j om,fun j hj=>Em j om,cU,cU,mq cU,fun j hj=>hc j om,h⟩,fun h=>h.jP⟩))
open Go Go.AW Go.Proofs
theorem DE{n:ab}{c:Cell}(hs:n.Small)(hc:c.args.length <= 17592186043904)(hn:c.num < 18446744073709551616)(Fu:Shaped n c)(hw:BN n c):ay Try.prog 164 [.agg (ab.row n),.agg (Cell.row c)] [] [] (fun r o=>r = .v (.bool (decide (Fits n c))) /\ o = []):=by
 refine ay.of Try.func164 U U U (n:=239) ae (aL U) ?_
 have RH:=hs.ins; have RI:=hs.aA; have TB:=hs.streams; have ho:=hw.out; have TF:=hs.aa
 refine .sr (.box 102 U U U U U ae (.box 103 U U U U U ae ?_))
 refine .an (.nil (.sr ?_))
 refine .an (.nil ?_)
 refine .fS (fun (j9:Int)=>⟨[(2,.ptr 102 0 0 0),(3,.ptr 103 0 0 0),(5,vi j9)],[(102,.cells (ab.row n)),(103,.cells (Cell.row c))]⟩) (fun j9=>j9 = n.ow c) ?_ (fun j9 AS=>?_)
 refine .sr (.fa eR ?_)
 refine .ld bw ?_
 refine .vl (Y.qq U U) (.nil (.a8 U (fun wW=>?_) (fun wW=>?_)))
 refine .region (.fa cg ?_)
 refine .ld bu ?_
 refine .fa eR ?_
 refine .ld bw ?_
 refine .vl (Y.qt (m:=(c.out).toNat) az U U om (aq (d:=0) om)) (.ld bw ?_)
 refine .an ?_
 refine .nil ⟨n.aa.getD ((c.out).toNat) 0,by unfold ab.ow ab.wd; rw [if_pos wW],Le.mk (.c2 (.cons (ak U bj) .nil)) (.c (.c .nil))⟩
 refine .skip ⟨0,by unfold ab.ow; rw [if_neg wW],Le.mk (.c2 (.cons (ak U bj) .nil)) (.c (.c .nil))⟩
 refine .sr (.fa cd ?_)
 refine .ld bu ?_
 refine .vl (Y.qy (n:=c.args.length) az U fk) (.makeSlice (n:=c.args.length) az cP U U U U om om ae ?_)
 refine .cj U ae (.sh (Sh.cz (d:=6) (n:=c.args.length) 106 ((List.replicate c.args.length 0).map ag) U fI (aF (by simp)) ae) (.nil (.seq (.sr (.fa cd ?_)))))
 refine .ld bu ?_
 refine .vl (Y.qy (n:=c.args.length) az U fk) (.mv ?_)
 refine .nil (.block (.fH (fun (bV:Nat) (m8:List Int)=>⟨[(2,.ptr 102 0 0 0),(3,.ptr 103 0 0 0),(5,vi j9),(6,.aR 106 1 0 c.args.length),(25,.fz 1 (c.args.map ag)),(26,vi c.args.length),(27,vi bV)],[(102,.cells (ab.row n)),(103,.cells (Cell.row c)),(106,.rows 1 (m8.map ag))]⟩) (fun bV m8=>(m8.length = c.args.length) /\ ((bV:Int) <= (c.args.length:Int)) /\ (∀ j,j < bV -> m8.getD j 0 = n.av c j)) (fun bV m8=>((c.args.length:Int) - (bV:Int)).toNat) 0 (List.replicate c.args.length 0) (⟨pj,pj,fun j hj=>by omega⟩) (Le.mk (.c4 (.c2 (.cons (ak U bj) .nil))) (.c2 (.c .nil))) (fun bV m8 LM=>?_)))
 obtain ⟨C6,Xs,ha⟩:=LM
 refine .sr (.vl (Y.zd U U) (.nil (.seq (.a8 U (fun C5=>?_) (fun C5=>?_)))))
 refine .skip (.seq (.block (.sr (.mv ?_))))
 refine .vl (Y.qt (m:=bV) az U U bj (aq (d:=0) om)) (.ld bw ?_)
 refine .an ?_
 refine .an (.nil (.region ?_))
 have hwa:=hw.arg (k:=bV) om
 refine .mv ?_
 refine .mv ?_
 refine .fa cg ?_
 refine .ld bu ?_
 refine .mv ?_
 refine .vl (Y.qt (m:=(c.args.getD bV 0).toNat) az U U om (aq (d:=0) om)) (.ld bw ?_)
 refine .vl (Y.qu (m:=bV) az U U bj om) (.eH ((m8.set bV (n.aa.getD ((c.args.getD bV 0).toNat) 0)).map ag) fW U U U U U U U (aI (d:=0) om) (aL U) (cY U) ?_)
 refine .nil (.region (.vl (Y.qb U U aH) (.mv ?_)))
 refine .nil (⟨bV + 1,m8.set bV (n.aa.getD ((c.args.getD bV 0).toNat) 0),⟨pj,pj,CW ha U om⟩,om,Le.mk (.c4 (.c2 (.cons (ak U bj) .nil))) (.c2 (.c .nil))⟩)
 refine .exit (.seq (.seq ?_))
 have Zg:0 < c.args.length -> m8.getD 0 0 = n.av c 0:=fun h=>ha 0 om
 have Ua:1 < c.args.length -> m8.getD 1 0 = n.av c 1:=fun h=>ha 1 om
 have ha2:2 < c.args.length -> m8.getD 2 0 = n.av c 2:=fun h=>ha 2 om
 refine .region (.fa du ?_)
 refine .ld bw ?_
 refine .nil (.block (.sr (.vl (Y.qm U U) (.an (.nil ?_)))))
 refine .a8 U (fun TC=>?_) (fun TC=>?_)
 refine .seq (.dS U (.blind 0 U au (aw.move U U) ae ?_))
 refine .blind 1 U au (aw.fieldAddr eh U U) ae (.blind 4 U au (aw.fieldAddr eh U U) ae ?_)
 refine .two 2 5 U U au ?_ ?_
 refine .ld iN ?_
 refine .nil ⟨U,(.two 3 5 U U au ?_ ?_)⟩
 refine .bm vG (kZ (w:=j9) (x:=c.num) (om)) U (.ai U U (.ai U U .nil)) ae U ?_
 refine .nil ⟨U,(.bX (n:=0) [5,6,7] [] 0 U au (.cn 5 U (Y.zb iN U U U U) (.cn 6 U (Y.qm U U) (.cn 7 U (Y.qf U U) (.nil (.done au (.ret (.rb U (dd zE)))))))))⟩
 refine .ld iN ?_
 refine .nil ⟨U,(.one 3 U au (.bm vG (kZ (w:=j9) (x:=c.num) (om)) U (.ai U U (.ai U U .nil)) ae U ?_))⟩
 exact .nil ⟨U,(.bX (n:=0) [6,7] [] 0 U au (.cn 6 U (Y.qm U U) (.cn 7 U (Y.qf U U) (.nil (.done au (.ret (.rb rfl (dd zE))))))))⟩
 refine .ld iN ?_
 refine .nil ⟨U,(.bX (n:=3) [2] [3,6,7] 3 U au (.cn 2 U (Y.zb iN U U U U) (.nil (.one 3 U au (.bm vG (kZ (w:=j9) (x:=c.num) (om)) U (.ai U U (.ai U U .nil)) ae U ?_)))))⟩
 exact .nil ⟨U,(.bX (n:=0) [6,7] [] 0 U au (.cn 6 U (Y.qm U U) (.cn 7 U (Y.qf U U) (.nil (.done au (.ret (.rb rfl (dd zE))))))))⟩
 refine .sr (.vl (Y.qm U U) (.an (.nil ?_)))
 refine .a8 U (fun C7=>?_) (fun C7=>?_)
 have hk:=Fu.k2 C7
 refine .seq (.sr (.fa eQ ?_))
 refine .ld bw ?_
 refine .nil (.block (.sr (.vl (Y.qm U U) (.an (.nil ?_)))))
 refine .a8 U (fun Qj=>?_) (fun Qj=>?_)
 refine .sr (.mv ?_)
 refine .vl (Y.qu (m:=0) az U U bj aH) (.vl (Y.zb bw U (aI (d:=0) om) U U) (.vl (Y.qm U U) (.mv ?_)))
 refine .aG (d:=62) U (fun Qk=>?_) (fun Qk=>?_)
 refine .gw 62 (Y.zh U U) (.gw 62 (Y.qu (m:=1) az U U bj om) (.gw 62 (Y.zb bw U (aI (d:=0) om) U U) (.gw 62 (Y.zh U U) (.gw 62 (Y.qm U U) (.pk ?_)))))
 refine .mv ?_
 refine .aG (d:=69) U (fun Zh=>?_) (fun Zh=>?_)
 refine .gw 69 (Y.zh U U) (.gw 69 (Y.qu (m:=2) az U U bj om) (.gw 69 (Y.zb bw U (aI (d:=0) om) U U) (.gw 69 (Y.zh U U) (.gw 69 (Y.qm U U) (.pk ?_)))))
 refine .an (.nil (.ret ?_))
 exact .rb rfl (dd (by (simp only [Fits,fU,km,<- AS,C7,Int.reduceEq,Bool.not_eq_true,false_and,true_and,and_true,and_false,or_false,false_or,ne_eq]) <;> omega))
 refine .gz 69 (.gz 69 (.gz 69 (.gz 69 (.gz 69 (.pk ?_)))))
 refine .an (.nil (.ret ?_))
 exact .rb rfl (df (by (simp only [Fits,fU,km,<- AS,C7,Int.reduceEq,Bool.not_eq_true,false_and,true_and,and_true,and_false,or_false,false_or,ne_eq]) <;> omega))
 refine .gz 62 (.gz 62 (.gz 62 (.gz 62 (.gz 62 (.pk ?_)))))
 refine .mv ?_
 refine .gz 69 (.gz 69 (.gz 69 (.gz 69 (.gz 69 (.pk ?_)))))
 refine .an (.nil (.ret ?_))
 exact .rb rfl (df (by (simp only [Fits,fU,km,<- AS,C7,Int.reduceEq,Bool.not_eq_true,false_and,true_and,and_true,and_false,or_false,false_or,ne_eq]) <;> omega))
 refine .seq (.sr (.vl (Y.qm U U) (.an (.nil ?_))))
 refine .bT U (fun Gk=>?_) (fun Gk=>?_)
 refine .skip (.bf U (.sr (.mv ?_)))
 refine .vl (Y.qu (m:=0) az U U bj aH) (.vl (Y.zb bw U (aI (d:=0) om) U U) (.mv ?_))
 refine .vl (Y.za U U) (.an (.nil (.ret ?_)))
 exact .rb rfl (dd (by (simp only [Fits,fU,km,<- AS,C7,Int.reduceEq,Bool.not_eq_true,false_and,true_and,and_true,and_false,or_false,false_or,ne_eq]) <;> omega))
 refine .region (.vl (Y.qm U U) (.an (.nil ?_)))
 refine .bT U (fun Gk=>?_) (fun Gk=>?_)
 refine .sr (.mv ?_)
 refine .vl (Y.qu (m:=0) az U U bj aH) (.vl (Y.zb bw U (aI (d:=0) om) U U) (.mv ?_))
 refine .vl (Y.za U U) (.an (.nil (.ret ?_)))
 exact .rb rfl (dd (by (simp only [Fits,fU,km,<- AS,C7,Int.reduceEq,Bool.not_eq_true,false_and,true_and,and_true,and_false,or_false,false_or,ne_eq]) <;> omega))
 refine .sr (.vl (Y.qm U U) (.an (.nil ?_)))
 refine .a8 U (fun Zi=>?_) (fun Zi=>?_)
 refine .sr (.mv ?_)
 refine .vl (Y.qu (m:=0) az U U bj aH) (.vl (Y.zb bw U (aI (d:=0) om) U U) (.mv ?_))
 refine .vl (Y.qq U U) (.an (.nil (.ret ?_)))
 exact .rb rfl (dd (by (simp only [Fits,fU,km,<- AS,C7,Int.reduceEq,Bool.not_eq_true,false_and,true_and,and_true,and_false,or_false,false_or,ne_eq]) <;> omega))
 refine .skip (.seq (.sr (.fa eQ ?_)))
 refine .ld bw ?_
 refine .bm JI (oV (w:=c.op)) U (.ai U U .nil) ae U (.nil (.a8 U (fun LN=>?_) (fun LN=>?_)))
 unfold km at LN
 refine .seq (.kb U au (.val (Y.zh U U) ae (.val (Y.qm U U) ae (.val (Y.zh U U) ae (.aG (d:=96) U (fun TL=>?_) (fun TL=>?_))))))
 refine .aX (d:=96) U ae U (.val (Y.zh U U) ae (.aX (d:=96) U ae U ?_))
 refine .val (Y.qu (m:=0) az U U bj om) ae (.aX (d:=96) U ae U (.val (Y.zb bw U (aI (d:=0) om) U U) ae (.aX (d:=96) U ae U (.val (Y.zh U U) ae (.aX (d:=96) U ae U ?_)))))
 refine .val (Y.qu (m:=1) az U U bj om) ae (.aX (d:=96) U ae U (.val (Y.zb bw U (aI (d:=0) om) U U) ae (.aX (d:=96) U ae U (.val (Y.qm U U) ae (.val (Y.zo U U U) ae (.val (Y.qf U U) ae (.nil (.ret ?_))))))))
 exact .rb rfl (dd (by (simp only [Fits,fU,km,<- AS,C7,Int.reduceEq,Bool.not_eq_true,false_and,true_and,and_true,and_false,or_false,false_or,ne_eq]) <;> omega))
 refine .aN (d:=96) U ae ae U U (.aN (d:=96) U ae ae U U (.aN (d:=96) U ae ae U U ?_))
 refine .aN (d:=96) U ae ae U U (.aN (d:=96) U ae ae U U (.aN (d:=96) U ae ae U U ?_))
 refine .aN (d:=96) U ae ae U U (.val (Y.zo U U U) ae (.val (Y.qf U U) ae (.nil (.ret ?_))))
 exact .rb rfl (df (by (simp only [Fits,fU,km,<- AS,C7,Int.reduceEq,Bool.not_eq_true,false_and,true_and,and_true,and_false,or_false,false_or,ne_eq]) <;> omega))
 unfold km at LN
 refine .skip (.sr (.mv ?_))
 refine .vl (Y.qu (m:=0) az U U bj aH) (.vl (Y.zb bw U (aI (d:=0) om) U U) (.mv ?_))
 refine .vl (Y.qm U U) (.mv ?_)
 refine .aG (d:=110) U (fun Gp=>?_) (fun Gp=>?_)
 refine .gw 110 (Y.zh U U) (.gw 110 (Y.qu (m:=1) az U U bj om) (.gw 110 (Y.zb bw U (aI (d:=0) om) U U) (.gw 110 (Y.zh U U) (.gw 110 (Y.qm U U) (.pk ?_)))))
 refine .an (.nil (.ret ?_))
 exact .rb rfl (dd (by (simp only [Fits,fU,km,<- AS,C7,Int.reduceEq,Bool.not_eq_true,false_and,true_and,and_true,and_false,or_false,false_or,ne_eq]) <;> omega))
 refine .gz 110 (.gz 110 (.gz 110 (.gz 110 (.gz 110 (.pk ?_)))))
 refine .an (.nil (.ret ?_))
 exact .rb rfl (df (by (simp only [Fits,fU,km,<- AS,C7,Int.reduceEq,Bool.not_eq_true,false_and,true_and,and_true,and_false,or_false,false_or,ne_eq]) <;> omega))
 refine .sr (.vl (Y.qm U U) (.an (.nil ?_)))
 refine .a8 U (fun mU=>?_) (fun mU=>?_)
 have hk:=Fu.k3 mU
 refine .seq (.sr (.mv ?_))
 refine .vl (Y.qy (n:=c.args.length) az U U) (.mv ?_)
 refine .nil (.block (.kO (fun (cq:Nat)=>⟨[(5,vi j9),(119,.aR 106 1 0 c.args.length),(120,vi c.args.length),(121,vi cq)],[(106,.rows 1 (m8.map ag))]⟩) (fun cq=>((cq:Int) <= (c.args.length:Int)) /\ (∀ k,k < cq -> jN n c k)) (fun cq=>((c.args.length:Int) - (cq:Int)).toNat) 0 (⟨om,fun k hk=>by omega⟩) (Le.mk (.c2 (.c (.cons (ak U bj) .nil))) (.c .nil)) (fun cq LO=>?_)))
 obtain ⟨Ub,hm⟩:=LO
 refine .sr (.vl (Y.zd U U) (.nil (.seq (.a8 U (fun LP=>?_) (fun LP=>?_)))))
 refine .skip ?_
 refine .kP (fun (lB:Bool) (lC:Bool)=>⟨[(5,vi j9),(119,.aR 106 1 0 c.args.length),(120,vi c.args.length),(121,vi cq),(134,vi cq),(135,vi ((cq:Int) % 2)),(136,.v (.bool (decide (((cq:Int) % 2) = 1)))),(137,.v (.bool lB)),(141,.v (.bool lC))],[(106,.rows 1 (m8.map ag))]⟩) (fun lB lC=>((((cq:Int) % 2) = 0) /\ (¬ ((m8.getD cq 0) ≠ 1)) /\ (((cq:Int) % 2) = 1) /\ (¬ ((m8.getD cq 0) ≠ j9)) /\ (lB = true) /\ (lC = (decide ((m8.getD cq 0) ≠ j9)))) \/ ((((cq:Int) % 2) = 0) /\ (¬ ((m8.getD cq 0) ≠ 1)) /\ (¬ (((cq:Int) % 2) = 1)) /\ (lB = false) /\ (lC = false)) \/ ((¬ (((cq:Int) % 2) = 0)) /\ (((cq:Int) % 2) = 1) /\ (¬ ((m8.getD cq 0) ≠ j9)) /\ (lB = true) /\ (lC = (decide ((m8.getD cq 0) ≠ j9)))) \/ ((¬ (((cq:Int) % 2) = 0)) /\ (¬ (((cq:Int) % 2) = 1)) /\ (lB = false) /\ (lC = false))) ?_ (fun lB lC Zj=>?_)
 refine .block (.sr (.mv ?_))
 refine .vl (Y.qu (m:=cq) az U U bj om) (.vl (Y.zb bw U (aI (d:=0) om) U U) (.an ?_))
 refine .an (.nil (.sr ?_))
 refine .mv ?_
 refine .vl (Y.zt U U aH) (.vl (Y.qm U U) (.mv ?_))
 refine .aG (d:=129) U (fun Gv=>?_) (fun Gv=>?_)
 refine .gw 129 (Y.zh U U) (.gw 129 (Y.zl U U) (.pk ?_))
 refine .mv ?_
 refine .aG (d:=133) U (fun LQ=>?_) (fun LQ=>?_)
 refine .gz 133 (.gz 133 (.gz 133 (.gz 133 (.gz 137 (.gz 137 (.gz 137 (.gz 133 (.pk ?_))))))))
 refine .nil (.bf U (.sr (.an (.nil (.ret ?_)))))
 exact .rb rfl (df (fun h=>by simp only [Fits,mU,Int.reduceEq,Bool.not_eq_true,false_and,true_and,and_true,and_false,or_false,false_or,ne_eq] at h; have h1:=h cq om; have h2:=ha cq om; unfold jN at h1; omega))
 refine .gw 133 (Y.zh U U) (.gw 133 (Y.zt U U om) (.gw 133 (Y.qm U U) (.gw 133 (Y.zh U U) (.aG (d:=137) U (fun AT=>?_) (fun AT=>?_)))))
 refine .gw 137 (Y.zh U U) (.gw 137 (Y.zh U U) (.gw 137 (Y.zl U U) (.gw 133 (Y.zo U U U) (.pk ?_))))
 refine .nil (.a8 U (fun AU=>?_) (fun AU=>?_))
 refine .sr (.an (.nil (.ret ?_)))
 exact .rb rfl (df (fun h=>by simp only [Fits,mU,Int.reduceEq,Bool.not_eq_true,false_and,true_and,and_true,and_false,or_false,false_or,ne_eq] at h; have h1:=h cq om; have h2:=ha cq om; unfold jN at h1; omega))
 refine .skip (⟨true,decide ((m8.getD cq 0) ≠ j9),.inl ⟨Gv,LQ,AT,AU,U,U⟩,Le.mk (.c4 (.c2 (.c (.cons (bz U o3) (.cons (bz U o3) .nil))))) (.c .nil)⟩)
 refine .gz 137 (.gz 137 (.gz 137 (.gw 133 (Y.zo U U U) (.pk ?_))))
 exact .nil (.dA U (.skip (⟨false,false,.inr (.inl ⟨Gv,LQ,AT,U,U⟩),Le.mk (.c4 (.c2 (.c (.cons (bz U o3) (.cons (bz U o3) .nil))))) (.c .nil)⟩)))
 refine .gz 129 (.gz 129 (.pk ?_))
 refine .mv ?_
 refine .gw 133 (Y.zh U U) (.gw 133 (Y.zt U U om) (.gw 133 (Y.qm U U) (.gw 133 (Y.zh U U) (.aG (d:=137) U (fun AT=>?_) (fun AT=>?_)))))
 refine .gw 137 (Y.zh U U) (.gw 137 (Y.zh U U) (.gw 137 (Y.zl U U) (.gw 133 (Y.zo U U U) (.pk ?_))))
 refine .nil (.a8 U (fun AU=>?_) (fun AU=>?_))
 refine .sr (.an (.nil (.ret ?_)))
 exact .rb rfl (df (fun h=>by simp only [Fits,mU,Int.reduceEq,Bool.not_eq_true,false_and,true_and,and_true,and_false,or_false,false_or,ne_eq] at h; have h1:=h cq om; have h2:=ha cq om; unfold jN at h1; omega))
 refine .skip (⟨true,decide ((m8.getD cq 0) ≠ j9),.inr (.inr (.inl ⟨Gv,AT,AU,U,U⟩)),Le.mk (.c4 (.c2 (.c (.cons (bz U o3) (.cons (bz U o3) .nil))))) (.c .nil)⟩)
 refine .gz 137 (.gz 137 (.gz 137 (.gw 133 (Y.zo U U U) (.pk ?_))))
 exact .nil (.dA U (.skip (⟨false,false,.inr (.inr (.inr (⟨Gv,AT,U,U⟩))),Le.mk (.c4 (.c2 (.c (.cons (bz U o3) (.cons (bz U o3) .nil))))) (.c .nil)⟩)))
 refine .region (.vl (Y.qb U U aH) (.mv ?_))
 refine .nil (⟨cq + 1,⟨om,EO hm (by have h2:=ha cq om; unfold jN; omega)⟩,om,Le.mk (.c2 (.c (.cons (ak U bj) .nil))) (.c .nil)⟩)
 refine .exit (.sr (.an (.nil (.ret ?_))))
 exact .rb rfl (dt (by simp only [Fits,mU,Int.reduceEq,Bool.not_eq_true,false_and,true_and,and_true,and_false,or_false,false_or,ne_eq]; exact fun k hk=>hm k om))
 refine .sr (.vl (Y.qm U U) (.an (.nil ?_)))
 refine .a8 U (fun IZ=>?_) (fun IZ=>?_)
 have hk:=Fu.k4 IZ
 refine .seq (.dS U (.blind 0 U au (aw.move U U) ae ?_))
 refine .one 1 U au (.vl (Y.qu (m:=0) az U U bj aH) (.nil ⟨U,(.one 2 U au (.vl (Y.zb bw U (aI (d:=0) om) U U) (.nil ⟨U,(.one 3 U au (.vl (Y.qm U U) (.nil ⟨U,(.blind 4 U au (aw.move U U) ae ?_)⟩)))⟩)))⟩))
 refine .aG (d:=150) U (fun Uc=>?_) (fun Uc=>?_)
 refine .fT 5 U au U ae U (aw.move U U) ae (.fT 8 U au U ae U (aw.move U U) ae (.one 6 U au (.gw 150 (Y.qu (m:=1) az U U bj om) (.nil ⟨U,(.one 7 U au (.gw 150 (Y.zb bw U (aI (d:=0) om) U U) (.nil ⟨U,(.one 9 U au (.gw 150 (Y.qm U U) (.nil ⟨U,(.one 10 U au (.pk ?_))⟩)))⟩)))⟩))))
 refine .nil ⟨U,(.blind 11 U au (aw.move U U) ae ?_)⟩
 refine .aG (d:=157) U (fun Ud=>?_) (fun Ud=>?_)
 refine .fT 12 U au U ae U (aw.move U U) ae (.fT 13 U au U ae U (aw.fieldAddr eh U U) ae (.fT 16 U au U ae U (aw.fieldAddr eh U U) ae ?_))
 refine .two 14 17 U U au ?_ ?_
 refine .gw 157 (Y.zb iN U U U U) (.nil ⟨U,(.two 15 17 U U au ?_ ?_)⟩)
 refine .aX (d:=157) U ae U (.bm vG (kZ (w:=j9) (x:=c.num) (om)) U (.ai U U (.ai U U .nil)) ae U ?_)
 refine .nil ⟨U,(.bX (n:=0) [17,18,19,20] [] 0 U au (.rn 17 U U U (Y.zb iN U U U U) (.rn 18 U U U (Y.qm U U) ?_)))⟩
 exact .cn 19 U (Y.zo U U U) (.cn 20 U (Y.qf U U) (.nil (.done au (.ret (.rb rfl (dd zE))))))
 refine .gw 157 (Y.zb iN U U U U) (.nil ⟨U,(.one 15 U au (.aX (d:=157) U ae U ?_))⟩)
 refine .bm vG (kZ (w:=j9) (x:=c.num) (om)) U (.ai U U (.ai U U .nil)) ae U ?_
 refine .nil ⟨U,(.bX (n:=0) [18,19,20] [] 0 U au (.rn 18 U U U (Y.qm U U) (.cn 19 U (Y.zo U U U) (.cn 20 U (Y.qf U U) (.nil (.done au (.ret (.rb U (dd zE)))))))))⟩
 refine .gw 157 (Y.zb iN U U U U) (.nil ⟨U,(.bX (n:=4) [14] [15,18,19,20] 15 U au (.rn 14 U U U (Y.zb iN U U U U) (.nil (.one 15 U au (.aX (d:=157) U ae U ?_)))))⟩)
 refine .bm vG (kZ (w:=j9) (x:=c.num) (om)) U (.ai U U (.ai U U .nil)) ae U ?_
 refine .nil ⟨U,(.bX (n:=0) [18,19,20] [] 0 U au (.rn 18 U U U (Y.qm U U) (.cn 19 U (Y.zo U U U) (.cn 20 U (Y.qf U U) (.nil (.done au (.ret (.rb U (dd zE)))))))))⟩
 refine .ck 12 U au U ae ae U U (.ck 13 U au U ae ae U U (.ck 14 U au U ae ae U U ?_))
 refine .ck 15 U au U ae ae U U (.ck 16 U au U ae ae U U (.ck 17 U au U ae ae U U ?_))
 refine .ck 18 U au U ae ae U U (.bX (n:=0) [19,20] [] 0 U au (.cn 19 U (Y.zo U U U) (.cn 20 U (Y.qf U U) (.nil (.done au (.ret (.rb U (df zE))))))))
 refine .ck 5 U au U ae ae U U (.ck 6 U au U ae ae U U (.ck 7 U au U ae ae U U ?_))
 refine .ck 8 U au U ae ae U U (.ck 9 U au U ae ae U U (.one 10 U au (.pk ?_)))
 refine .nil ⟨U,(.blind 11 U au (aw.move U U) ae (.ck 12 U au U ae ae U U (.ck 13 U au U ae ae U U ?_)))⟩
 refine .ck 14 U au U ae ae U U (.ck 15 U au U ae ae U U (.ck 16 U au U ae ae U U ?_))
 refine .ck 17 U au U ae ae U U (.ck 18 U au U ae ae U U (.bX (n:=0) [19,20] [] 0 U au ?_))
 exact .cn 19 U (Y.zo U U U) (.cn 20 U (Y.qf U U) (.nil (.done au (.ret (.rb rfl (df zE))))))
 refine .sr (.vl (Y.qm U U) (.an (.nil ?_)))
 refine .a8 U (fun Ql=>?_) (fun Ql=>?_)
 have hk:=Fu.k5 Ql
 refine .sr (.mv ?_)
 refine .vl (Y.qu (m:=0) az U U bj aH) (.vl (Y.zb bw U (aI (d:=0) om) U U) (.mv ?_))
 refine .vl (Y.qm U U) (.mv ?_)
 refine .aG (d:=173) U (fun Ue=>?_) (fun Ue=>?_)
 refine .gw 173 (Y.zh U U) (.gw 173 (Y.qu (m:=1) az U U bj om) (.gw 173 (Y.zb bw U (aI (d:=0) om) U U) (.gw 173 (Y.zh U U) (.gw 173 (Y.qm U U) (.pk ?_)))))
 refine .an (.nil (.ret ?_))
 exact .rb rfl (dd zE)
 refine .gz 173 (.gz 173 (.gz 173 (.gz 173 (.gz 173 (.pk ?_)))))
 refine .an (.nil (.ret ?_))
 exact .rb rfl (df zE)
 refine .sr (.vl (Y.qm U U) (.an (.nil ?_)))
 refine .a8 U (fun Jb=>?_) (fun Jb=>?_)
 have hk:=Fu.k6 Jb
 refine .sr (.mv ?_)
 refine .vl (Y.qu (m:=0) az U U bj aH) (.vl (Y.zb bw U (aI (d:=0) om) U U) (.vl (Y.qm U U) (.mv ?_)))
 refine .aG (d:=186) U (fun LK=>?_) (fun LK=>?_)
 refine .gw 186 (Y.qp gP U U) (.gw 186 (Y.zb pN U U U U) (.gw 186 (Y.qp dv U U) (.gw 186 (Y.zb bw U U U U) (.gw 186 (Y.qt (m:=(c.mem).toNat) mw U U om (aq (d:=default) om)) (.gw 186 (Y.qp rz U U) (.gw 186 (Y.zb bw U U U U) (.gw 186 (Y.zh U U) (.gw 186 (Y.qm U U) (.pk ?_)))))))))
 refine .an (.nil (.ret ?_))
 exact .rb rfl (dd zE)
 refine .gz 186 (.gz 186 (.gz 186 (.gz 186 (.gz 186 (.gz 186 (.gz 186 (.gz 186 (.gz 186 (.pk ?_)))))))))
 refine .an (.nil (.ret ?_))
 exact .rb rfl (df zE)
 refine .sr (.vl (Y.qm U U) (.an (.nil ?_)))
 refine .a8 U (fun Qm=>?_) (fun Qm=>?_)
 have hk:=Fu.k7 Qm
 refine .seq (.kb U au (.val (Y.zh U U) ae (.val (Y.qu (m:=0) az U U bj om) ae (.val (Y.zb bw U (aI (d:=0) om) U U) ae (.val (Y.qm U U) ae (.val (Y.zh U U) ae (.aG (d:=203) U (fun Uf=>?_) (fun Uf=>?_))))))))
 refine .aX (d:=203) U ae U (.val (Y.qp gP U U) ae (.aX (d:=203) U ae U ?_))
 refine .val (Y.zb pN U U U U) ae (.aX (d:=203) U ae U (.val (Y.qp dv U U) ae (.aX (d:=203) U ae U (.val (Y.zb bw U U U U) ae (.aX (d:=203) U ae U ?_)))))
 refine .val (Y.qt (m:=(c.mem).toNat) mw U U om (aq (d:=default) om)) ae (.aX (d:=203) U ae U (.val (Y.qp rz U U) ae (.aX (d:=203) U ae U ?_)))
 exact .val (Y.zb bw U U U U) ae (.aX (d:=203) U ae U (.val (Y.zh U U) ae (.aX (d:=203) U ae U (.val (Y.qu (m:=2) az U U bj om) ae (.aX (d:=203) U ae U (.val (Y.zb bw U (aI (d:=0) om) U U) ae (.aX (d:=203) U ae U (.val (Y.qm U U) ae (.val (Y.zo U U U) ae (.val (Y.qf U U) ae (.nil (.ret (.rb rfl (dd zE))))))))))))))
 refine .aN (d:=203) U ae ae U U (.aN (d:=203) U ae ae U U (.aN (d:=203) U ae ae U U ?_))
 refine .aN (d:=203) U ae ae U U (.aN (d:=203) U ae ae U U (.aN (d:=203) U ae ae U U ?_))
 refine .aN (d:=203) U ae ae U U (.aN (d:=203) U ae ae U U (.aN (d:=203) U ae ae U U ?_))
 exact .aN (d:=203) U ae ae U U (.aN (d:=203) U ae ae U U (.val (Y.zo U U U) ae (.val (Y.qf U U) ae (.nil (.ret (.rb rfl (df zE)))))))
 refine .sr (.vl (Y.qm U U) (.an (.nil ?_)))
 refine .a8 U (fun Qn=>?_) (fun Qn=>?_)
 have hk:=Fu.k8 Qn
 refine .sr (.fa mr ?_)
 refine .ld bu ?_
 refine .fa eh ?_
 refine .ld iN ?_
 refine .vl (Y.qt (m:=c.num) az U U bj (aq (d:=0) om)) (.ld bw ?_)
 refine .mv ?_
 refine .vl (Y.qm U U) (.an (.nil (.ret ?_)))
 exact .rb rfl (dd zE)
 refine .sr (.vl (Y.qm U U) (.an (.nil ?_)))
 refine .a8 U (fun Ug=>?_) (fun Ug=>?_)
 refine .sr (.mv ?_)
 refine .vl (Y.qm U U) (.an (.nil (.ret ?_)))
 exact .rb rfl (dd zE)
 have Rw:c.kind = 10:=by have:=Fu.kind; omega
 have hk:=Fu.Rw Rw
 refine .skip (.sr (.fa eI ?_))
 refine .ld l6 ?_
 refine .fa dv ?_
 refine .ld bw ?_
 refine .vl (Y.qt (m:=(c.mem).toNat) jz U U om (aq (d:=default) om)) (.fa r3 ?_)
 refine .ld bw ?_
 refine .mv ?_
 refine .vl (Y.qm U U) (.an (.nil (.ret ?_)))
 exact .rb rfl (dd (by (simp only [Fits,fU,km,<- AS,Rw,Int.reduceEq,Bool.not_eq_true,false_and,true_and,and_true,and_false,or_false,false_or,ne_eq]) <;> omega))
open Go Go.AW Go.Proofs
theorem xa{n:ab}{c:Cell}(hs:n.Small)(hf:bg n)(hc:c ∈ n.cells):ay Try.prog 163 [.agg (Cell.row c),.fp (ab.row n) 0] [] [] (fun r o=>r = .v (.bool (!decide (Fits n c))) /\ o = []):=by
 refine ay.of Try.func163 U U U (n:=8) ae (aL U) (.sr (.box 102 U U U U U ae ?_))
 refine .an ?_
 refine .nil (.sr (.vl (Y.zc er U U (aL U) U U) (.vl (Y.zc fq U U (aL U) U U) (.bm OF (DE (n:=n) (c:=c) hs (hs.args _ hc) (hs.Ak _ hc) (hf.cell hc).2.1 (hf.cell hc).Oo) U (.ai U U (.ai U U .nil)) ae U (.vl (Y.zn U) (.an (.nil (.ret ?_))))))))
 exact .rb rfl (rfl)
theorem yH{n:ab}(hs:n.Small)(hf:bg n):ay Try.prog 109 [.agg (ab.row n)] [] [] (fun r o=>r = .v (.bool (decide (Fit n))) /\ o = []):=by
 refine ay.of Try.func109 U U U (n:=63) ae (aL U) ?_
 have TF:=hf.dM; have Zb:=hf.gM; have RG:=hf.cG; have RH:=hf.freeze; have RI:=hf.done; unfold In at RH RI; have TB:=hf.dr; have Zc:=hf.dH
 refine .sr (.box 101 U U U U U ae ?_)
 refine .an ?_
 refine .nil (.seq (.sr (.fa cg ?_)))
 refine .ld bu ?_
 refine .fa mu ?_
 refine .ld bw ?_
 refine .vl (Y.qt (m:=(n.freeze).toNat) az U U om (aq (d:=0) om)) (.ld bw ?_)
 refine .vl (Y.zl U U) (.mv ?_)
 refine .aG (d:=12) U (fun Gl=>?_) (fun Gl=>?_)
 refine .gz 12 (.gz 12 (.gz 12 (.gz 12 (.gz 12 (.gz 12 (.gz 12 (.pk ?_)))))))
 refine .nil (.bf U (.sr (.an (.nil (.ret ?_)))))
 exact .rb rfl (df (fun h=>by have h1:=h.freeze; have h2:=h.done; unfold ab.wd at h1 h2; first | contradiction | omega))
 refine .gw 12 (Y.qp cg U U) (.gw 12 (Y.zb bu U U U U) (.gw 12 (Y.qp w8 U U) (.gw 12 (Y.zb bw U U U U) (.gw 12 (Y.qt (m:=(n.done).toNat) az U U om (aq (d:=0) om)) (.gw 12 (Y.zb bw U U U U) (.gw 12 (Y.zl U U) (.pk ?_)))))))
 refine .nil (.a8 U (fun Gm=>?_) (fun Gm=>?_))
 refine .sr (.an (.nil (.ret ?_)))
 exact .rb rfl (df (fun h=>by have h1:=h.freeze; have h2:=h.done; unfold ab.wd at h1 h2; first | contradiction | omega))
 refine .skip (.seq (.sr (.fa eI ?_)))
 refine .ld l6 ?_
 refine .vl (Y.qy (n:=n.streams.length) jz U fk) (.mv ?_)
 refine .nil (.block (.kO (fun (gE:Nat)=>⟨[(1,.ptr 101 0 0 0),(22,.fz 3 (n.streams.map b8.row)),(23,vi n.streams.length),(24,vi gE)],[(101,.cells (ab.row n))]⟩) (fun gE=>((gE:Int) <= (n.streams.length:Int)) /\ (∀ j,j < gE -> oN n j)) (fun gE=>((n.streams.length:Int) - (gE:Int)).toNat) 0 (⟨om,fun j hj=>by omega⟩) (Le.mk (.c2 (.c (.cons (ak U bj) .nil))) (.c .nil)) (fun gE IY=>?_)))
 obtain ⟨Kd,Em⟩:=IY
 refine .sr (.vl (Y.zd U U) (.nil (.seq (.a8 U (fun LR=>?_) (fun LR=>?_)))))
 refine .skip (.kP (fun (AV:Bool) (AX:Bool)=>⟨[(1,.ptr 101 0 0 0),(22,.fz 3 (n.streams.map b8.row)),(23,vi n.streams.length),(24,vi gE),(40,.ptr 104 0 0 2),(41,.v (.bool ((n.streams.getD gE default).out))),(42,.v (.bool AV)),(55,.v (.bool AX))],[(101,.cells (ab.row n)),(104,.cells [.v (.string ((n.streams.getD gE default).name)),vi ((n.streams.getD gE default).width),.v (.bool ((n.streams.getD gE default).out))])]⟩) (fun AV AX=>oN n gE) ?_ (fun AV AX Jc=>?_))
 refine .block (.sr (.mv ?_))
 refine .vl (Y.qt (m:=gE) jz U U bj (aq (d:=default) om)) (.vl (Y.zc JJ U U (aL U) U U) (.alloc 104 mP U U ae ?_))
 refine .an ?_
 refine .ao JK U U U U U U (aL U) U (.nil (.seq (.kb U au ?_)))
 obtain ⟨_,_,Ua,Qo,_⟩:=hf.strs gE om
 unfold In at Ua Qo
 refine .val (Y.qp cg U U) ae (.val (Y.zb bu U U U U) ae (.val (Y.qp nE U U) ae (.val (Y.zb bu U U U U) ae (.val (Y.zh U U) ae (.val (Y.qt (m:=gE) az U U bj (aq (d:=0) om)) ae (.val (Y.zb bw U U U U) ae (.val (Y.qt (m:=(n.ba.getD gE 0).toNat) az U U om (aq (d:=0) om)) ae (.val (Y.zb bw U U U U) ae (.val (Y.zl U U) ae (.val (Y.zh U U) ae (.aG (d:=39) U (fun rK=>?_) (fun rK=>?_))))))))))))
 refine .aN (d:=39) U ae ae U U (.aN (d:=39) U ae ae U U (.aN (d:=39) U ae ae U U ?_))
 refine .aN (d:=42) U ae ae U U (.aN (d:=42) U ae ae U U (.aN (d:=42) U ae ae U U ?_))
 refine .aN (d:=42) U ae ae U U (.aN (d:=42) U ae ae U U (.aN (d:=42) U ae ae U U ?_))
 refine .aN (d:=42) U ae ae U U (.aN (d:=42) U ae ae U U (.aN (d:=42) U ae ae U U ?_))
 refine .aN (d:=42) U ae ae U U (.aN (d:=42) U ae ae U U (.aN (d:=42) U ae ae U U ?_))
 refine .aN (d:=39) U ae ae U U (.val (Y.zo U U U) ae (.nil (.bf U (.sr (.an (.nil (.ret ?_)))))))
 exact .rb rfl (df (fun h=>by have h1:=h.strs gE om; unfold oN ab.wd at h1; grind))
 refine .aX (d:=39) U ae U (.val (Y.qp kf U U) ae (.aX (d:=39) U ae U ?_))
 refine .val (Y.zb Dd U U U U) ae (.aX (d:=39) U ae U (.val (Y.zh U U) ae (.split (d:=42) U (fun Ed=>?_) (fun Ed=>?_))))
 have hd2:=Qo cU
 refine .aX (d:=42) U ae U (.val (Y.qp cg U U) ae (.aX (d:=42) U ae U ?_))
 refine .val (Y.zb bu U U U U) ae (.aX (d:=42) U ae U (.val (Y.qp nG U U) ae (.aX (d:=42) U ae U (.val (Y.zb bu U U U U) ae (.aX (d:=42) U ae U ?_)))))
 refine .val (Y.zh U U) ae (.aX (d:=42) U ae U ?_)
 refine .val (Y.qt (m:=gE) az U U bj (aq (d:=0) om)) ae (.aX (d:=42) U ae U (.val (Y.zb bw U U U U) ae (.aX (d:=42) U ae U ?_)))
 refine .val (Y.qt (m:=(n.data.getD gE 0).toNat) az U U om (aq (d:=0) om)) ae (.aX (d:=42) U ae U (.val (Y.zb bw U U U U) ae (.aX (d:=42) U ae U ?_)))
 refine .val (Y.qp r3 U U) ae (.aX (d:=42) U ae U (.val (Y.zb bw U U U U) ae (.aX (d:=42) U ae U (.val (Y.zl U U) ae (.aX (d:=39) U ae U ?_)))))
 refine .val (Y.zo U U U) ae (.val (Y.zo U U U) ae (.nil (.a8 U (fun Qj=>?_) (fun Qj=>?_))))
 refine .sr (.an (.nil (.ret ?_)))
 exact .rb rfl (df (fun h=>by have h1:=h.strs gE om; unfold oN ab.wd at h1; grind))
 refine .skip ⟨true,decide ((n.aa.getD ((n.data.getD gE 0).toNat) 0) ≠ ((n.streams.getD gE default).width)),by unfold oN ab.wd; grind,Le.mk (.c4 (.c2 (.cons (bz U o3) (.cons (bz U o3) .nil)))) (.c (.c .nil))⟩
 refine .aN (d:=42) U ae ae U U (.aN (d:=42) U ae ae U U (.aN (d:=42) U ae ae U U ?_))
 refine .aN (d:=42) U ae ae U U (.aN (d:=42) U ae ae U U (.aN (d:=42) U ae ae U U ?_))
 refine .aN (d:=42) U ae ae U U (.aN (d:=42) U ae ae U U (.aN (d:=42) U ae ae U U ?_))
 refine .aN (d:=42) U ae ae U U (.aN (d:=42) U ae ae U U (.aN (d:=42) U ae ae U U ?_))
 exact .aX (d:=39) U ae U (.val (Y.zo U U U) ae (.val (Y.zo U U U) ae (.nil (.dA U (.skip ⟨false,false,by unfold oN ab.wd; grind,Le.mk (.c4 (.c2 (.cons (bz U o3) (.cons (bz U o3) .nil)))) (.c (.c .nil))⟩)))))
 refine .region (.vl (Y.qb U U aH) (.mv ?_))
 refine .nil (⟨gE + 1,⟨om,eK Em Jc⟩,om,Le.mk (.c2 (.c (.cons (ak U bj) .nil))) (.c .nil)⟩)
 refine .exit (.sr (.fa cK ?_))
 refine .ld iz ?_
 refine .sh (Sh.dD 101 U U) (.vl (Y.ze U U U U) (.bm OD (oy (l:=n.cells) (p:=fun z=>!decide (Fits n z)) (om) OE (fun z hz=>xa hs hf hz)) U (.ai U U (.ai U U .nil)) ae U ?_))
 refine .vl (Y.zn U) (.an (.nil (.ret ?_)))
 exact .rb rfl (db (xV (by unfold ab.wd; omega) (by unfold ab.wd; omega) (fun j hj=>Em j om)))
open Go Go.AW Go.Proofs
theorem qP{n:ab}(hs:n.Small)(MX:n.aa.length + n.ins.length <= 17592186044416):ay Try.prog 52 [.agg (ab.row n)] [] [] (fun r o=>∃ (l:List Int) (e:Int),l4 n l e /\ r = .tup [.dn 1 (l.map ag),vi e] /\ o = []):=by
 refine ay.of Try.func52 U U U (n:=169) ae (aL U) (.sr (.box 101 U U U U U ae ?_))
 refine .an ?_
 refine .an ?_
 refine .nil (.seq (.sr (.vl (Y.zc er U U (aL U) U U) (.bm O6 (yG (n:=n) hs (om)) U (.ai U U .nil) ae U ?_))))
 refine .vl (Y.zn U) (.nil (.kM U (fun mT=>?_) (fun mT=>?_)))
 refine .sr (.an ?_)
 refine .an ?_
 exact .nil (.sh (Sh.zX (d:=2) 1 U) (.ret (⟨_,_,U,U,([]:List Int),3,.inl ⟨cU,U,U⟩,U,U⟩)))
 have hf:bg n:=by assumption
 refine .skip (.seq (.sr (.vl (Y.zc er U U (aL U) U U) (.bm O7 (yH (n:=n) hs cU) U (.ai U U .nil) ae U (.vl (Y.zn U) (.nil (.kM U (fun LR=>?_) (fun LR=>?_))))))))
 refine .sr (.an ?_)
 refine .an ?_
 exact .nil (.sh (Sh.zX (d:=2) 1 U) (.ret (⟨_,_,U,U,([]:List Int),13,.inr (.inl ⟨cU,cU,U,U⟩),U,U⟩)))
 have Xt:Fit n:=by assumption
 have Rn:=hf.dH; have NC:=hf.dr
 refine .skip (.sr (.an ?_))
 refine .sh (Sh.nil (d:=4) 104 1 U ae) (.nil (.sr (.fa cK ?_)))
 refine .ld iz ?_
 refine .vl (Y.qy (n:=n.cells.length) dZ U fk) (.makeSlice (n:=n.cells.length) az cP U U U U om om ae ?_)
 refine .cj U ae (.sh (Sh.cz (d:=5) (n:=n.cells.length) 105 ((List.replicate n.cells.length 0).map ag) U fI (aF (by simp)) ae) (.nil (.sr (.fa cg ?_))))
 refine .ld bu ?_
 refine .vl (Y.qy (n:=n.aa.length) az U fk) (.makeSlice (n:=n.aa.length) cb mQ U U U U om om ae ?_)
 refine .sh (Sh.pz (d:=33) 1 U) (.cj U ae (.sh (Sh.cz (d:=6) (n:=n.aa.length) 106 ((List.replicate n.aa.length []).map iw) U fI (aF (by simp)) ae) (.nil (.sr (.fa cg ?_)))))
 refine .ld bu ?_
 refine .vl (Y.qy (n:=n.aa.length) az U fk) (.makeSlice (n:=n.aa.length) yg Xh U U U U om om ae ?_)
 refine .cj U ae (.sh (Sh.cz (d:=7) (n:=n.aa.length) 107 ((List.replicate n.aa.length false).map oo) U fI (aF (by simp)) ae) (.nil (.seq (.sr (.fa cK ?_)))))
 refine .ld iz ?_
 refine .vl (Y.qy (n:=n.cells.length) dZ U fk) (.mv ?_)
 refine .nil (.block ?_)
 refine .fH (fun (gR:Nat) (eE:List Bool)=>⟨[(1,.ptr 101 0 0 0),(4,.aR 104 1 0 0),(5,.aR 105 1 0 n.cells.length),(6,.aR 106 1 0 n.aa.length),(7,.aR 107 1 0 n.aa.length),(39,.fz 6 (n.cells.map Cell.row)),(40,vi n.cells.length),(41,vi gR)],[(101,.cells (ab.row n)),(104,.rows 1 (([]:List Int).map ag)),(105,.rows 1 ((List.replicate n.cells.length 0).map ag)),(106,.rows 1 ((List.replicate n.aa.length []).map iw)),(107,.rows 1 (eE.map oo))]⟩) (fun gR eE=>(eE.length = n.aa.length) /\ ((gR:Int) <= (n.cells.length:Int)) /\ (fK n gR eE)) (fun gR eE=>((n.cells.length:Int) - (gR:Int)).toNat) 0 (List.replicate n.aa.length false) (⟨jE,jE,fK.init n⟩) (Le.mk (.c4 (.c2 (.c (.cons (ak U bj) .nil)))) (.c4 (.c .nil))) (fun gR eE LI=>?_)
 obtain ⟨Kf,TK,Uh⟩:=LI
 refine .sr (.vl (Y.zd U U) (.nil (.seq (.a8 U (fun Ed=>?_) (fun Ed=>?_)))))
 refine .skip (.fS (fun (lb:List Bool)=>⟨[(1,.ptr 101 0 0 0),(4,.aR 104 1 0 0),(5,.aR 105 1 0 n.cells.length),(6,.aR 106 1 0 n.aa.length),(7,.aR 107 1 0 n.aa.length),(39,.fz 6 (n.cells.map Cell.row)),(40,vi n.cells.length),(41,vi gR)],[(101,.cells (ab.row n)),(104,.rows 1 (([]:List Int).map ag)),(105,.rows 1 ((List.replicate n.cells.length 0).map ag)),(106,.rows 1 ((List.replicate n.aa.length []).map iw)),(107,.rows 1 (lb.map oo))]⟩) (fun lb=>(lb.length = n.aa.length) /\ (fK n (gR + 1) lb)) ?_ (fun lb Qp=>?_))
 refine .block (.sr (.vl (Y.qt (m:=gR) dZ U U bj (aq (d:=default) om)) (.vl (Y.zc fq U U (aL U) U U) (.alloc 109 e8 U U ae (.ao fJ U U U U U U (aL U) U ?_)))))
 refine .nil (.sr (.fa du ?_))
 refine .ld bw ?_
 refine .bm Dc (la (w:=((n.cells.getD gR default).kind))) U (.ai U U .nil) ae U (.nil (.a8 U (fun Jd=>?_) (fun Jd=>?_)))
 have RP:=hf.jh (bD.kG (n:=n) (i:=(gR:Int)) ⟨⟨om,om⟩,Jd⟩)
 rw [oO] at RP
 have wG:=RP; unfold In at wG
 refine .region (.mv ?_)
 refine .fa eR ?_
 refine .ld bw ?_
 refine .vl (Y.qu (m:=((n.cells.getD gR default).out).toNat) yg U U om om) (.eH ((eE.set (((n.cells.getD gR default).out).toNat) true).map oo) Xg U U U U U U U (aI (d:=false) om) (aL U) (cY U) (.nil (⟨eE.set (((n.cells.getD gR default).out).toNat) true,⟨jE,Uh.step om Kf Jd RP⟩,Le.mk (.c4 (.c2 (.c (.c .nil)))) (.c4 (.c .nil))⟩)))
 refine .skip (⟨eE,⟨om,Uh.skip Jd⟩,Le.mk (.c4 (.c2 (.c (.c .nil)))) (.c4 (.c .nil))⟩)
 obtain ⟨MZ,Ui⟩:=Qp
 refine .region (.vl (Y.qb U U om) (.mv ?_))
 refine .nil (⟨gR + 1,lb,⟨om,om,Ui⟩,om,Le.mk (.c4 (.c2 (.c (.cons (ak U bj) .nil)))) (.c4 (.c .nil))⟩)
 refine .exit (.seq (.seq ?_))
 have Qq:fK n n.cells.length eE:=by rw [show n.cells.length = gR by omega]; exact Uh
 refine .region (.fa cK ?_)
 refine .ld iz ?_
 refine .vl (Y.qy (n:=n.cells.length) dZ U fk) (.mv ?_)
 refine .nil (.block ?_)
 refine .fH (fun (gS:Nat) (eX:List Int)=>⟨[(1,.ptr 101 0 0 0),(4,.aR 104 1 0 eX.length),(5,.aR 105 1 0 n.cells.length),(6,.aR 106 1 0 n.aa.length),(7,.aR 107 1 0 n.aa.length),(54,.fz 6 (n.cells.map Cell.row)),(55,vi n.cells.length),(56,vi gS)],[(101,.cells (ab.row n)),(104,.rows 1 (eX.map ag)),(105,.rows 1 ((List.replicate n.cells.length 0).map ag)),(106,.rows 1 ((List.replicate n.aa.length []).map iw)),(107,.rows 1 (eE.map oo))]⟩) (fun gS eX=>((gS:Int) <= (n.cells.length:Int)) /\ (eX = ju n gS)) (fun gS eX=>((n.cells.length:Int) - (gS:Int)).toNat) 0 ([]:List Int) (⟨jE,U⟩) (Le.mk (.c (.cons (aP U jE) (.c4 (.c (.cons (ak U bj) .nil))))) (.c4 (.c .nil))) (fun gS eX LS=>?_)
 obtain ⟨Uj,RQ⟩:=LS
 refine .sr (.vl (Y.zd U U) (.nil (.seq (.a8 U (fun LG=>?_) (fun LG=>?_)))))
 refine .skip (.fS (fun (mV:List Int)=>⟨[(1,.ptr 101 0 0 0),(4,.aR 104 1 0 mV.length),(5,.aR 105 1 0 n.cells.length),(6,.aR 106 1 0 n.aa.length),(7,.aR 107 1 0 n.aa.length),(54,.fz 6 (n.cells.map Cell.row)),(55,vi n.cells.length),(56,vi gS)],[(101,.cells (ab.row n)),(104,.rows 1 (mV.map ag)),(105,.rows 1 ((List.replicate n.cells.length 0).map ag)),(106,.rows 1 ((List.replicate n.aa.length []).map iw)),(107,.rows 1 (eE.map oo))]⟩) (fun mV=>mV = ju n (gS + 1)) ?_ (fun mV LU=>?_))
 refine .block (.sr (.mv ?_))
 refine .vl (Y.qt (m:=gS) dZ U U bj (aq (d:=default) om)) (.vl (Y.zc fq U U (aL U) U U) (.alloc 111 e8 U U ae ?_))
 refine .an ?_
 refine .ao fJ U U U U U U (aL U) U (.nil (.sr ?_))
 have MN:=ER n gS; rw [<- RQ] at MN
 refine .fa du ?_
 refine .ld bw ?_
 refine .bm Dc (la (w:=((n.cells.getD gS default).kind))) U (.ai U U .nil) ae U (.vl (Y.zn U) (.nil (.kM U (fun Kg=>?_) (fun Kg=>?_))))
 refine .region (.mv ?_)
 refine .mv ?_
 refine .buildSlice (([(gS:Int)]:List Int).map ag) az cP U U U U U (aj (s:=1) (f:=ag) (fun _=>U)) U U U ae ?_
 refine .cL ag (eX ++ ([(gS:Int)]:List Int)) az cP U U U U (aV jE) (aM jE) (bs jE) jE jE ae ae ?_
 refine .an ?_
 refine .nil ⟨eX ++ ([(gS:Int)]:List Int),by rw [vB,if_neg Kg,RQ],Le.mk (.c (.cons (aP U om) (.c4 (.c (.c .nil))))) (.c4 (.c .nil))⟩
 refine .skip ⟨eX,by rw [vB,if_pos Kg,RQ,List.append_nil],Le.mk (.c (.cons (aP U om) (.c4 (.c (.c .nil))))) (.c4 (.c .nil))⟩
 refine .region (.vl (Y.qb U U om) (.mv ?_))
 refine .nil (⟨gS + 1,mV,⟨om,LU⟩,om,Le.mk (.c (.cons (aP U om) (.c4 (.c (.cons (ak U bj) .nil))))) (.c4 (.c .nil))⟩)
 refine .exit (.sr (.an ?_))
 refine .sh (Sh.nil (d:=12) 112 1 U ae) (.nil (.seq (.sr (.fa cK ?_))))
 refine .ld iz ?_
 refine .vl (Y.qy (n:=n.cells.length) dZ U fk) (.mv ?_)
 refine .nil (.block ?_)
 refine .EC (fun (bO:Nat) (dp:List Int) (bp:List (List Int)) (dz:List Int)=>⟨[(1,.ptr 101 0 0 0),(4,.aR 104 1 0 eX.length),(5,.aR 105 1 0 n.cells.length),(6,.aR 106 1 0 n.aa.length),(7,.aR 107 1 0 n.aa.length),(12,.aR 112 1 0 dz.length),(71,.fz 6 (n.cells.map Cell.row)),(72,vi n.cells.length),(73,vi bO)],[(101,.cells (ab.row n)),(104,.rows 1 (eX.map ag)),(105,.rows 1 (dp.map ag)),(106,.rows 1 (bp.map iw)),(107,.rows 1 (eE.map oo)),(112,.rows 1 (dz.map ag))]⟩) (fun bO dp bp dz=>(dp.length = n.cells.length) /\ (bp.length = n.aa.length) /\ ((bO:Int) <= (n.cells.length:Int)) /\ (BI n bO dp bp dz)) (fun bO dp bp dz=>((n.cells.length:Int) - (bO:Int)).toNat) 0 (List.replicate n.cells.length 0) (List.replicate n.aa.length []) ([]:List Int) (⟨jE,jE,jE,BI.init n⟩) (Le.mk (.c4 (.c (.cons (aP U jE) (.c2 (.cons (ak U bj) .nil))))) (.c4 (.c (.c .nil)))) (fun bO dp bp dz LV=>?_)
 obtain ⟨vU,C6,Uk,LW⟩:=LV
 refine .sr (.vl (Y.zd U U) (.nil (.seq (.a8 U (fun Ul=>?_) (fun Ul=>?_)))))
 refine .skip (.EB (fun (fX:List Int) (jV:List (List Int)) (jn:List Int)=>⟨[(1,.ptr 101 0 0 0),(4,.aR 104 1 0 eX.length),(5,.aR 105 1 0 n.cells.length),(6,.aR 106 1 0 n.aa.length),(7,.aR 107 1 0 n.aa.length),(12,.aR 112 1 0 jn.length),(71,.fz 6 (n.cells.map Cell.row)),(72,vi n.cells.length),(73,vi bO)],[(101,.cells (ab.row n)),(104,.rows 1 (eX.map ag)),(105,.rows 1 (fX.map ag)),(106,.rows 1 (jV.map iw)),(107,.rows 1 (eE.map oo)),(112,.rows 1 (jn.map ag))]⟩) (fun fX jV jn=>(fX.length = n.cells.length) /\ ((jV.length = n.aa.length) /\ (BI n (bO + 1) fX jV jn))) ?_ (fun fX jV jn Qr=>?_))
 refine .block (.sr (.mv ?_))
 refine .vl (Y.qt (m:=bO) dZ U U bj (aq (d:=default) om)) (.vl (Y.zc fq U U (aL U) U U) (.alloc 114 e8 U U ae ?_))
 refine .an ?_
 refine .ao fJ U U U U U U (aL U) U (.nil (.seq (.sr ?_)))
 have Zf:=hs.args (n.cells.getD bO default) (ic om)
 have Jv:=LW.rl
 refine .fa du ?_
 refine .ld bw ?_
 refine .bm Dc (la (w:=((n.cells.getD bO default).kind))) U (.ai U U .nil) ae U (.vl (Y.zn U) (.nil (.kM U (fun Kh=>?_) (fun Kh=>?_))))
 refine .exit (⟨dp,bp,dz,⟨om,⟨om,LW.skip om Kh⟩⟩,Le.mk (.c4 (.c (.cons (aP U om) (.c2 (.c .nil))))) (.c4 (.c (.c .nil)))⟩)
 refine .skip (.seq (.sr (.fa cd ?_)))
 refine .ld bu ?_
 refine .vl (Y.qy (n:=((n.cells.getD bO default).args).length) az U fk) (.mv ?_)
 refine .nil (.block ?_)
 refine .eg (fun (eA:Nat) (cV:List Int) (dL:List (List Int))=>⟨[(1,.ptr 101 0 0 0),(4,.aR 104 1 0 eX.length),(5,.aR 105 1 0 n.cells.length),(6,.aR 106 1 0 n.aa.length),(7,.aR 107 1 0 n.aa.length),(12,.aR 112 1 0 dz.length),(13,vi bO),(71,.fz 6 (n.cells.map Cell.row)),(72,vi n.cells.length),(73,vi bO),(83,.fz 1 (((n.cells.getD bO default).args).map ag)),(84,vi ((((n.cells.getD bO default).args).length:Nat):Int)),(85,vi eA)],[(101,.cells (ab.row n)),(104,.rows 1 (eX.map ag)),(105,.rows 1 (cV.map ag)),(106,.rows 1 (dL.map iw)),(107,.rows 1 (eE.map oo)),(112,.rows 1 (dz.map ag))]⟩) (fun eA cV dL=>(cV.length = n.cells.length) /\ (dL.length = n.aa.length) /\ ((eA:Int) <= ((((n.cells.getD bO default).args).length:Nat):Int)) /\ (BJ n bO eA dp bp cV dL)) (fun eA cV dL=>(((((n.cells.getD bO default).args).length:Nat):Int) - (eA:Int)).toNat) 0 dp bp (⟨om,om,om,BJ.init LW om⟩) (Le.mk (.c8 (.c4 (.cons (ak U bj) .nil))) (.c4 (.c (.c .nil)))) (fun eA cV dL LO=>?_)
 obtain ⟨vU,C6,Ub,Na⟩:=LO
 refine .sr (.vl (Y.zd U U) (.nil (.seq (.a8 U (fun Um=>?_) (fun Um=>?_)))))
 refine .skip ?_
 refine .kP (fun (fY:List Int) (jW:List (List Int))=>⟨[(1,.ptr 101 0 0 0),(4,.aR 104 1 0 eX.length),(5,.aR 105 1 0 n.cells.length),(6,.aR 106 1 0 n.aa.length),(7,.aR 107 1 0 n.aa.length),(12,.aR 112 1 0 dz.length),(13,vi bO),(71,.fz 6 (n.cells.map Cell.row)),(72,vi n.cells.length),(73,vi bO),(83,.fz 1 (((n.cells.getD bO default).args).map ag)),(84,vi ((((n.cells.getD bO default).args).length:Nat):Int)),(85,vi eA)],[(101,.cells (ab.row n)),(104,.rows 1 (eX.map ag)),(105,.rows 1 (fY.map ag)),(106,.rows 1 (jW.map iw)),(107,.rows 1 (eE.map oo)),(112,.rows 1 (dz.map ag))]⟩) (fun fY jW=>(fY.length = n.cells.length) /\ ((jW.length = n.aa.length) /\ (BJ n bO (eA + 1) dp bp fY jW))) ?_ (fun fY jW Qs=>?_)
 refine .block (.sr (.vl (Y.qt (m:=eA) az U U bj (aq (d:=0) om)) (.ld bw ?_)))
 refine .an (.nil (.sr ?_))
 have Nb:=hf.pR (i:=(bO:Int)) ⟨om,om⟩ (bQ (i:=eA) (by rw [oO]; omega))
 rw [oO] at Nb
 have Un:=Nb; unfold In at Un
 have vL:=Na.KQ
 have yA:=BJ.len LW Na Nb
 have Xu:=ET hs (bO + 1); rw [uq om] at Xu
 refine .mv ?_
 refine .mv ?_
 refine .vl (Y.qu (m:=(((n.cells.getD bO default).args).getD eA 0).toNat) yg U U om om) (.vl (Y.zb Dd U (aI (d:=false) om) U U) (.nil (.cond U (fun RS=>?_) (fun RS=>?_))))
 refine .sr (.mv ?_)
 refine .mv ?_
 refine .vl (Y.qu (m:=bO) az U U bj om) (.vl (Y.zb bw U (aI (d:=0) jE) U U) (.vl (Y.qb U U om) (.vl (Y.qu (m:=bO) az U U bj om) (.eH ((cV.set bO ((cV.getD bO 0) + 1)).map ag) fW U U U U U U U (aI (d:=0) om) (aL U) (cY U) ?_))))
 refine .nil (.region (.mv ?_))
 refine .mv ?_
 refine .mv ?_
 refine .mv ?_
 refine .vl (Y.qu (m:=(((n.cells.getD bO default).args).getD eA 0).toNat) cb U U om om) (.Oj ((dL.map iw).set (0 + ((((n.cells.getD bO default).args).getD eA 0).toNat)) [.no]) bu U U (aI (d:=[]) om) U U ae ?_)
 refine .mv ?_
 refine .buildSlice (([(bO:Int)]:List Int).map ag) az cP U U U U U (aj (s:=1) (f:=ag) (fun _=>U)) U U U ae ?_
 refine .sh (Sh.cz (d:=104) (n:=(dL.getD ((((n.cells.getD bO default).args).getD eA 0).toNat) []).length) 204 ((dL.getD ((((n.cells.getD bO default).args).getD eA 0).toNat) []).map ag) U fI (aF U) ae) (.cL ag ((dL.getD ((((n.cells.getD bO default).args).getD eA 0).toNat) []) ++ ([(bO:Int)]:List Int)) az cP U U U U (aV jE) (aM jE) (bs jE) jE jE ae ae (.vl (Y.qu (m:=(((n.cells.getD bO default).args).getD eA 0).toNat) cb U U om om) (.sh (Sh.cO (d:=107) (o:=204) U U (aF om) ae) (.BL ((dL.set ((((n.cells.getD bO default).args).getD eA 0).toNat) ((dL.getD ((((n.cells.getD bO default).args).getD eA 0).toNat) []) ++ ([(bO:Int)]:List Int))).map iw) eD U U U (BM om) ae (xR U) (.nil (⟨cV.set bO ((cV.getD bO 0) + 1),dL.set ((((n.cells.getD bO default).args).getD eA 0).toNat) ((dL.getD ((((n.cells.getD bO default).args).getD eA 0).toNat) []) ++ ([(bO:Int)]:List Int)),⟨jE,⟨jE,Na.step om vU C6 om Nb ((fK.all Qq Nb).1 RS)⟩⟩,Le.mk (.c8 (.c4 (.c .nil))) (.c4 (.c (.c .nil)))⟩))))))
 refine .skip (⟨cV,dL,⟨om,⟨om,Na.skip om (fun h=>by rw [(fK.all Qq Nb).2 h] at RS; cases RS)⟩⟩,Le.mk (.c8 (.c4 (.c .nil))) (.c4 (.c (.c .nil)))⟩)
 obtain ⟨Nc,Nd,LX⟩:=Qs
 refine .region (.vl (Y.qb U U om) (.mv ?_))
 refine .nil (⟨eA + 1,fY,jW,⟨om,om,om,LX⟩,om,Le.mk (.c8 (.c4 (.cons (ak U bj) .nil))) (.c4 (.c (.c .nil)))⟩)
 refine .exit (.sr (.mv ?_))
 refine .mv ?_
 refine .vl (Y.qu (m:=bO) az U U bj om) (.vl (Y.zb bw U (aI (d:=0) jE) U U) (.vl (Y.qm U U) (.nil (.a8 U (fun LY=>?_) (fun LY=>?_)))))
 refine .region (.mv ?_)
 refine .mv ?_
 refine .buildSlice (([(bO:Int)]:List Int).map ag) az cP U U U U U (aj (s:=1) (f:=ag) (fun _=>U)) U U U ae ?_
 refine .cL ag (dz ++ ([(bO:Int)]:List Int)) az cP U U U U (aV jE) (aM jE) (bs jE) jE jE ae ae ?_
 refine .an ?_
 refine .nil (⟨cV,dL,dz ++ ([(bO:Int)]:List Int),⟨om,⟨om,(BJ.fin LW om Kh (by rw [show (n.cells.getD bO default).args.length = eA by omega]; exact Na)).1 LY⟩⟩,Le.mk (.c4 (.c (.cons (aP U om) (.c2 (.c .nil))))) (.c4 (.c (.c .nil)))⟩)
 refine .skip (⟨cV,dL,dz,⟨om,⟨om,(BJ.fin LW om Kh (by rw [show (n.cells.getD bO default).args.length = eA by omega]; exact Na)).2 LY⟩⟩,Le.mk (.c4 (.c (.cons (aP U om) (.c2 (.c .nil))))) (.c4 (.c (.c .nil)))⟩)
 obtain ⟨Nf,Ng,Uo⟩:=Qr
 refine .region (.vl (Y.qb U U om) (.mv ?_))
 refine .nil (⟨bO + 1,fX,jV,jn,⟨om,om,om,Uo⟩,om,Le.mk (.c4 (.c (.cons (aP U om) (.c2 (.cons (ak U bj) .nil))))) (.c4 (.c (.c .nil)))⟩)
 refine .exit (.seq (.block ?_))
 have LZ:BI n n.cells.length dp bp dz:=by rw [show n.cells.length = bO by omega]; exact LW
 have Xv:=LZ.us
 refine .sh (Sh.cO (d:=6) (o:=106) U U (aF om) ae) (.sh (Sh.Ah (d:=6) (l:=bp) (f:=iw) (g:=bG) xS U) ?_)
 refine .eg (fun (gu:List Int) (fC:List Int) (aT:List Int)=>⟨[(1,.ptr 101 0 0 0),(4,.aR 104 1 0 gu.length),(5,.aR 105 1 0 n.cells.length),(6,.fz 1 (bp.map bG)),(12,.aR 112 1 0 aT.length)],[(101,.cells (ab.row n)),(104,.rows 1 (gu.map ag)),(105,.rows 1 (fC.map ag)),(112,.rows 1 (aT.map ag))]⟩) (fun gu fC aT=>(fC.length = n.cells.length) /\ (∃ done,gu = ju n n.cells.length ++ done /\ KI n done aT fC)) (fun gu fC aT=>n.cells.length - gu.length) eX dp dz (⟨om,⟨[],by rw [RQ,show gS = n.cells.length by omega,List.append_nil],LZ.ki⟩⟩) (Le.mk (.c (.cons (aP U om) (.c2 (.cons (aP U om) .nil)))) (.c2 (.c (.c .nil)))) (fun gu fC aT Ma=>?_)
 obtain ⟨vU,hK⟩:=Ma
 refine .seq (.sr (.mv ?_))
 refine .vl (Y.qy (n:=aT.length) az U U) (.vl (Y.qr U U) (.nil (.a8 U (fun LP=>?_) (fun LP=>?_))))
 obtain ⟨done,lq,vd⟩:=hK
 have qA:=vd.len
 rw [<- lq] at qA
 have q7:=vd.cm (aT.getD 0 0) (List.mem_append.2 (.inr (bQ om)))
 have YJ:=q7.1
 have LC:=hf.jh q7.kG
 have Up:=LC; unfold In ab.cell at Up
 have z3:∀ x,bD n x -> (bp.getD (((n.cells.getD ((aT.getD 0 0).toNat) default).out).toNat) []).count x = (n.cell x).args.count (n.cell (aT.getD 0 0)).out:=fun x hx=>Xv.YH _ x LC ⟨_,q7,rfl⟩ hx
 have RT:∀ x ∈ (bp.getD (((n.cells.getD ((aT.getD 0 0).toNat) default).out).toNat) []),bD n x:=fun x hx=>Xv.mem _ x LC hx
 have Zk:=LZ.ul _ LC; unfold ab.cell at Zk
 have Xu:=ET hs n.cells.length
 refine .skip (.block (.sr (.mv ?_)))
 refine .vl (Y.qu (m:=0) az U U bj om) (.vl (Y.zb bw U (aI (d:=0) jE) U U) (.an (.nil (.sr ?_))))
 refine .mv ?_
 refine .vl (Y.wa (l:=1) (h:=aT.length) az U (.some U) (.none _) om om) (.an ?_)
 refine .sh (Sh.BH (d:=12) (o:=112) ((aT.drop 1).map ag) U U jE (v9 jE) ae) (.nil (.sr (.mv ?_)))
 refine .mv ?_
 refine .buildSlice (([aT.getD 0 0]:List Int).map ag) az cP U U U U U (aj (s:=1) (f:=ag) (fun _=>U)) U U U ae ?_
 refine .cL ag (gu ++ ([aT.getD 0 0]:List Int)) az cP U U U U (aV jE) (aM jE) (bs jE) jE jE ae ae ?_
 refine .an (.nil (.sr ?_))
 refine .mv ?_
 refine .fa cK ?_
 refine .ld iz ?_
 refine .mv ?_
 refine .vl (Y.qt (m:=(aT.getD 0 0).toNat) dZ U U om (aq (d:=default) om)) (.fa eR ?_)
 refine .ld bw ?_
 refine .vl (Y.qt (m:=((n.cells.getD ((aT.getD 0 0).toNat) default).out).toNat) cb U U om (aq (d:=[]) om)) (.ld bu ?_)
 refine .vl (Y.qy (n:=(bp.getD (((n.cells.getD ((aT.getD 0 0).toNat) default).out).toNat) []).length) az U fk) (.mv ?_)
 refine .nil (.block ?_)
 refine .eg (fun (dx:Nat) (cB:List Int) (fD:List Int)=>⟨[(1,.ptr 101 0 0 0),(4,.aR 104 1 0 ((gu ++ ([aT.getD 0 0]:List Int)).length)),(5,.aR 105 1 0 n.cells.length),(6,.fz 1 (bp.map bG)),(12,.aR 112 1 0 fD.length),(140,.fz 1 ((bp.getD (((n.cells.getD ((aT.getD 0 0).toNat) default).out).toNat) []).map ag)),(141,vi (((bp.getD (((n.cells.getD ((aT.getD 0 0).toNat) default).out).toNat) []).length:Nat):Int)),(142,vi dx)],[(101,.cells (ab.row n)),(104,.rows 1 ((gu ++ ([aT.getD 0 0]:List Int)).map ag)),(105,.rows 1 (cB.map ag)),(112,.rows 1 (fD.map ag))]⟩) (fun dx cB fD=>(cB.length = n.cells.length) /\ ((dx:Int) <= (((bp.getD (((n.cells.getD ((aT.getD 0 0).toNat) default).out).toNat) []).length:Nat):Int)) /\ (KJ n done (aT.getD 0 0) (bp.getD (((n.cells.getD ((aT.getD 0 0).toNat) default).out).toNat) []) dx fD cB)) (fun dx cB fD=>((((bp.getD (((n.cells.getD ((aT.getD 0 0).toNat) default).out).toNat) []).length:Nat):Int) - (dx:Int)).toNat) 0 fC (aT.drop 1) (⟨jE,jE,KJ.init vd om⟩) (Le.mk (.c4 (.cons (aP U jE) (.c2 (.cons (ak U bj) .nil)))) (.c2 (.c (.c .nil)))) (fun dx cB fD Uq=>?_)
 obtain ⟨vU,Zl,RU⟩:=Uq
 refine .sr (.vl (Y.zd U U) (.nil (.seq (.a8 U (fun Ur=>?_) (fun Ur=>?_)))))
 refine .skip ?_
 refine .fS (fun (jo:List Int)=>⟨[(1,.ptr 101 0 0 0),(4,.aR 104 1 0 ((gu ++ ([aT.getD 0 0]:List Int)).length)),(5,.aR 105 1 0 n.cells.length),(6,.fz 1 (bp.map bG)),(12,.aR 112 1 0 jo.length),(140,.fz 1 ((bp.getD (((n.cells.getD ((aT.getD 0 0).toNat) default).out).toNat) []).map ag)),(141,vi (((bp.getD (((n.cells.getD ((aT.getD 0 0).toNat) default).out).toNat) []).length:Nat):Int)),(142,vi dx)],[(101,.cells (ab.row n)),(104,.rows 1 ((gu ++ ([aT.getD 0 0]:List Int)).map ag)),(105,.rows 1 ((cB.set (((bp.getD (((n.cells.getD ((aT.getD 0 0).toNat) default).out).toNat) []).getD dx 0).toNat) ((cB.getD (((bp.getD (((n.cells.getD ((aT.getD 0 0).toNat) default).out).toNat) []).getD dx 0).toNat) 0) - 1)).map ag)),(112,.rows 1 (jo.map ag))]⟩) (fun jo=>KJ n done (aT.getD 0 0) (bp.getD (((n.cells.getD ((aT.getD 0 0).toNat) default).out).toNat) []) (dx + 1) jo (cB.set ((bp.getD (((n.cells.getD ((aT.getD 0 0).toNat) default).out).toNat) []).getD dx 0).toNat (cB.getD ((bp.getD (((n.cells.getD ((aT.getD 0 0).toNat) default).out).toNat) []).getD dx 0).toNat 0 - 1))) ?_ (fun jo Us=>?_)
 refine .block (.sr (.vl (Y.qt (m:=dx) az U U bj (aq (d:=0) om)) (.ld bw ?_)))
 refine .an (.nil (.sr ?_))
 have SN:=RU.bound hf hs om z3 RT
 have hkr:=(RT _ (bQ (l:=(bp.getD (((n.cells.getD ((aT.getD 0 0).toNat) default).out).toNat) [])) (i:=dx) om)).1
 refine .mv ?_
 refine .mv ?_
 refine .vl (Y.qu (m:=((bp.getD (((n.cells.getD ((aT.getD 0 0).toNat) default).out).toNat) []).getD dx 0).toNat) az U U om om) (.vl (Y.zb bw U (aI (d:=0) jE) U U) (.vl (Y.wc U U om) (.vl (Y.qu (m:=((bp.getD (((n.cells.getD ((aT.getD 0 0).toNat) default).out).toNat) []).getD dx 0).toNat) az U U om om) (.eH ((cB.set (((bp.getD (((n.cells.getD ((aT.getD 0 0).toNat) default).out).toNat) []).getD dx 0).toNat) ((cB.getD (((bp.getD (((n.cells.getD ((aT.getD 0 0).toNat) default).out).toNat) []).getD dx 0).toNat) 0) - 1)).map ag) fW U U U U U U U (aI (d:=0) om) (aL U) (cY U) ?_))))
 refine .nil (.sr (.mv ?_))
 refine .mv ?_
 refine .vl (Y.qu (m:=((bp.getD (((n.cells.getD ((aT.getD 0 0).toNat) default).out).toNat) []).getD dx 0).toNat) az U U om om) (.vl (Y.zb bw U (aI (d:=0) jE) U U) (.vl (Y.qm U U) (.nil (.a8 U (fun AY=>?_) (fun AY=>?_)))))
 rw [bR,if_pos ⟨rfl,om⟩] at AY
 refine .region (.mv ?_)
 refine .mv ?_
 refine .buildSlice (([(bp.getD (((n.cells.getD ((aT.getD 0 0).toNat) default).out).toNat) []).getD dx 0]:List Int).map ag) az cP U U U U U (aj (s:=1) (f:=ag) (fun _=>U)) U U U ae ?_
 refine .cL ag (fD ++ ([(bp.getD (((n.cells.getD ((aT.getD 0 0).toNat) default).out).toNat) []).getD dx 0]:List Int)) az cP U U U U (aV jE) (aM jE) (bs jE) jE jE ae ae ?_
 refine .an ?_
 refine .nil ⟨fD ++ ([(bp.getD (((n.cells.getD ((aT.getD 0 0).toNat) default).out).toNat) []).getD dx 0]:List Int),(RU.step hf vU om z3 RT).1 AY,Le.mk (.c4 (.cons (aP U om) (.c2 (.c .nil)))) (.c2 (.c (.c .nil)))⟩
 rw [bR,if_pos ⟨rfl,om⟩] at AY
 refine .skip ⟨fD,(RU.step hf vU om z3 RT).2 AY,Le.mk (.c4 (.cons (aP U om) (.c2 (.c .nil)))) (.c2 (.c (.c .nil)))⟩
 refine .region (.vl (Y.qb U U om) (.mv ?_))
 refine .nil (⟨dx + 1,cB.set (((bp.getD (((n.cells.getD ((aT.getD 0 0).toNat) default).out).toNat) []).getD dx 0).toNat) ((cB.getD (((bp.getD (((n.cells.getD ((aT.getD 0 0).toNat) default).out).toNat) []).getD dx 0).toNat) 0) - 1),jo,⟨jE,jE,Us⟩,om,Le.mk (.c4 (.cons (aP U jE) (.c2 (.cons (ak U bj) .nil)))) (.c2 (.c (.c .nil)))⟩)
 refine .exit (⟨gu ++ ([aT.getD 0 0]:List Int),cB,fD,⟨om,⟨done ++ [(aT.getD 0 0)],by rw [lq,List.append_assoc],KJ.fin hf vd (bQ om) (by rw [show (bp.getD (((n.cells.getD ((aT.getD 0 0).toNat) default).out).toNat) []).length = dx by omega]; exact RU) z3⟩⟩,by rw [List.length_append]; simp only [List.length_cons,List.length_nil]; omega,Le.mk (.c (.cons (aP U om) (.c2 (.cons (aP U om) .nil)))) (.c2 (.c (.c .nil)))⟩)
 obtain ⟨done,lq,vd⟩:=hK
 have Zm:aT = []:=List.eq_nil_of_length_eq_zero om
 subst Zm
 refine .exit (.seq (.sr (.mv ?_)))
 refine .vl (Y.qy (n:=gu.length) az U U) (.fa cK ?_)
 refine .ld iz ?_
 refine .vl (Y.qy (n:=n.cells.length) dZ U fk) (.vl (Y.zd U U) (.nil (.a8 U (fun Gu=>?_) (fun Gu=>?_))))
 refine .sr (.an ?_)
 refine .an ?_
 exact .nil (.sh (Sh.zX (d:=2) 1 U) (.ret (⟨_,_,U,U,([]:List Int),12,.inr (.inr (.inl ⟨hf,Xt,vd.J9 (by rw [<- lq]; omega),U,U⟩)),U,U⟩)))
 refine .skip (.sr (.mv ?_))
 refine .an ?_
 refine .sh (Sh.cO (d:=2) (o:=104) U U (aF om) ae) (.an (.nil (.ret ?_)))
 exact ⟨_,_,U,U,gu,0,.inr (.inr (.inr ⟨hf,Xt,(vd.ok hf (by rw [<- lq]; omega)).1,by rw [lq]; exact (vd.ok hf (by rw [<- lq]; omega)).2,U⟩)),U,U⟩
open Go Go.AW Go.Proofs
theorem AZ{n:ab}(hs:n.Small)(MX:n.aa.length + n.ins.length <= 17592186044416):ay Try.prog 77 [.agg (ab.row n)] [] [] (fun r o=>r = (vi (fg n)) /\ o = []):=by
 refine ay.of Try.func77 U U U (n:=11) ae (aL U) (.sr (.box 101 U U U U U ae ?_))
 refine .an ?_
 refine .nil (.sr (.vl (Y.zc er U U (aL U) U U) (.oH Lb (qP (n:=n) hs (om)) U (.ai U U .nil) ae ?_)))
 rintro _ ⟨l7,e7,Zn,rfl,_⟩
 refine ⟨U,(.oJ U ae (.iL U U ae (.vl (Y.qo U U U) (.cj U ae (.sh (Sh.bS (d:=3) (l7.map ag) U fI (bN.map aE)) (.an (.nil (.sr ?_))))))))⟩
 refine .mv ?_
 refine .an (.nil (.ret ?_))
 exact .ri rfl (Zn.err)
open Go Go.AW Go.Proofs
end Go.Proofs.Ytlimckldnjmabaa
namespace Go.Proofs.Ytlimckldnjmabaa
open Go Go.AW Go.Proofs
open Go Go.AW Go.Proofs
end Go.Proofs.Ytlimckldnjmabaa
namespace Go.Proofs.Ytlimckldnjmabaa
open Go Go.AW Go.Proofs
theorem pZ{l:List Int}(hl:l.length <= 17592186043904):ay Try.prog 123 [.fz 1 (l.map ag)] [] [] (fun r o=>r = .dn 1 (l.map ag) /\ o = []):=by
 refine ay.of Try.func123 U U U (n:=8) ae (aL U) (.sr (.an ?_))
 refine .nil (.seq (.sr (.mv ?_)))
 refine .J7 az U U ae (fun b4 Kd=>?_)
 refine .nil (.cond U (fun c4=>?_) (fun c4=>?_))
 refine .sr (.an ?_)
 exact .nil (.sh (Sh.zX (d:=2) 1 U) (.ret ⟨_,_,U,U,(CR (fun (z0:List Int)=>X.dn 1 (z0.map ag)) (by have:=Kd cU; simpa using this:([]:List Int) = l):X.dn 1 (([]:List Int).map ag) = X.dn 1 (l.map ag)),U⟩))
 refine .skip (.sr (.buildSlice (([]:List Int).map ag) az cP U U U U U (aj (s:=1) (f:=ag) (fun _=>U)) U U U ae ?_))
 refine .mv ?_
 refine .sh (Sh.cz (d:=5) (n:=([]:List Int).length) 105 (([]:List Int).map ag) U fI (aF U) ae) (.g5 ((([]:List Int) ++ l).map ag) (([]:List Int) ++ l).length az cP U U U U (aV aH) (aM aH) (bs aH) aH aH ae ae ?_)
 refine .an ?_
 exact .sh (Sh.cO (d:=2) (o:=105) U U (aF om) ae) (.nil (.ret ⟨_,_,U,U,(CR (fun (z0:List Int)=>X.dn 1 (z0.map ag)) (U:(([]:List Int) ++ l) = l):X.dn 1 ((([]:List Int) ++ l).map ag) = X.dn 1 (l.map ag)),U⟩))
open Go Go.AW Go.Proofs
theorem jq{gl:List Gate}(tp:gl.length <= 100000000){k a b:Int}:ay Try.prog 125 [.ptr 0 0 0 0,vi k,vi a,vi b] [.cells [.aR 1 3 0 gl.length],.rows 3 (gl.map Gate.row)] [0] (fun r o=>r = ((vi gl.length)) /\ o = [.cells [.aR 1 3 0 ((gl ++ [(⟨k,a,b⟩:Gate)]).length)],.rows 3 ((gl ++ [(⟨k,a,b⟩:Gate)]).map Gate.row)]):=by
 refine ay.of Try.func125 U U U (n:=28) ae (aL U) (.sr (.an (.nil (.sr ?_))))
 refine .mv ?_
 refine .mv ?_
 refine .vl (Y.zm U U) (.fa pA ?_)
 refine .ld wF ?_
 refine .mv ?_
 refine .mv ?_
 refine .mv ?_
 refine .vl (Y.qh JO ux U U U) (.buildSlice (([(⟨k,a,b⟩:Gate)]:List Gate).map Gate.row) uw ux U U U U U (aj (s:=3) (f:=Gate.row) (fun _=>U)) U U U ae ?_)
 refine .cL Gate.row (gl ++ ([(⟨k,a,b⟩:Gate)]:List Gate)) uw ux U U U U (aV aH) (aM aH) (bs aH) aH aH ae ae (.vl (Y.zm U U) (.fa pA ?_))
 refine .ao Lc U U U U U U (aL U) U (.nil (.sr (.mv ?_)))
 refine .vl (Y.zm U U) (.fa pA ?_)
 refine .ld wF ?_
 refine .vl (Y.qy (n:=(gl ++ ([(⟨k,a,b⟩:Gate)]:List Gate)).length) uw U U) (.vl (Y.wc U U aH) (.an (.nil (.ret ?_))))
 exact ⟨_,_,U,U,CR (fun (z0:Int)=>X.v (.int .i64 z0)) (by simp:(((gl ++ [(⟨k,a,b⟩:Gate)]).length:Nat):Int) - 1 = (gl.length:Int)),U⟩
theorem gT{gl:List Gate}(tp:gl.length <= 100000000){a:Int}:ay Try.prog 95 [.ptr 0 0 0 0,vi a] [.cells [.aR 1 3 0 gl.length],.rows 3 (gl.map Gate.row)] [0] (fun r o=>r = ((vi gl.length)) /\ o = [.cells [.aR 1 3 0 ((gl ++ [(⟨4,a,0⟩:Gate)]).length)],.rows 3 ((gl ++ [(⟨4,a,0⟩:Gate)]).map Gate.row)]):=by
 refine ay.of Try.func95 U U U (n:=8) ae (aL U) (.sr (.an (.nil (.sr ?_))))
 refine .mv ?_
 refine .mv ?_
 refine .bI [0,1] [] sT (jq (gl:=gl) (k:=4) (a:=a) (b:=0) om) U (.named U U (.ai U U (.ai U U (.ai U U .nil)))) ⟨U,U,trivial⟩ U ae (fun _ h=>by cases h) (fun _ h=>by cases h) ae ae ?_
 rintro r aJ ⟨rfl,rfl⟩ _
 refine ⟨⟨rfl,(by intro ob aY; simp only [List.mem_cons,List.not_mem_nil,or_false] at aY; rcases aY with rfl | rfl <;> rfl),.inl rfl⟩,(.an (.nil (.ret ?_)))⟩
 exact ⟨_,_,U,U,U,U⟩
theorem g6{gl:List Gate}(tp:gl.length <= 100000000){a:Int}{b:Int}:ay Try.prog 96 [.ptr 0 0 0 0,vi a,vi b] [.cells [.aR 1 3 0 gl.length],.rows 3 (gl.map Gate.row)] [0] (fun r o=>r = ((vi gl.length)) /\ o = [.cells [.aR 1 3 0 ((gl ++ [(⟨5,a,b⟩:Gate)]).length)],.rows 3 ((gl ++ [(⟨5,a,b⟩:Gate)]).map Gate.row)]):=by
 refine ay.of Try.func96 U U U (n:=11) ae (aL U) (.sr (.an (.nil (.sr ?_))))
 refine .mv ?_
 refine .mv ?_
 refine .mv ?_
 refine .bI [0,1] [] sT (jq (gl:=gl) (k:=5) (a:=a) (b:=b) om) U (.named U U (.ai U U (.ai U U (.ai U U .nil)))) ⟨U,U,trivial⟩ U ae (fun _ h=>by cases h) (fun _ h=>by cases h) ae ae ?_
 rintro r aJ ⟨rfl,rfl⟩ _
 refine ⟨⟨rfl,(by intro ob aY; simp only [List.mem_cons,List.not_mem_nil,or_false] at aY; rcases aY with rfl | rfl <;> rfl),.inl rfl⟩,(.an (.nil (.ret ?_)))⟩
 exact ⟨_,_,U,U,U,U⟩
theorem rO{gl:List Gate}(tp:gl.length <= 100000000){a:Int}{b:Int}:ay Try.prog 143 [.ptr 0 0 0 0,vi a,vi b] [.cells [.aR 1 3 0 gl.length],.rows 3 (gl.map Gate.row)] [0] (fun r o=>r = ((vi gl.length)) /\ o = [.cells [.aR 1 3 0 ((gl ++ [(⟨6,a,b⟩:Gate)]).length)],.rows 3 ((gl ++ [(⟨6,a,b⟩:Gate)]).map Gate.row)]):=by
 refine ay.of Try.func143 U U U (n:=11) ae (aL U) (.sr (.an (.nil (.sr ?_))))
 refine .mv ?_
 refine .mv ?_
 refine .mv ?_
 refine .bI [0,1] [] sT (jq (gl:=gl) (k:=6) (a:=a) (b:=b) om) U (.named U U (.ai U U (.ai U U (.ai U U .nil)))) ⟨U,U,trivial⟩ U ae (fun _ h=>by cases h) (fun _ h=>by cases h) ae ae ?_
 rintro r aJ ⟨rfl,rfl⟩ _
 refine ⟨⟨rfl,(by intro ob aY; simp only [List.mem_cons,List.not_mem_nil,or_false] at aY; rcases aY with rfl | rfl <;> rfl),.inl rfl⟩,(.an (.nil (.ret ?_)))⟩
 exact ⟨_,_,U,U,U,U⟩
theorem mW{gl:List Gate}(tp:gl.length <= 100000000){a:Int}{b:Int}:ay Try.prog 175 [.ptr 0 0 0 0,vi a,vi b] [.cells [.aR 1 3 0 gl.length],.rows 3 (gl.map Gate.row)] [0] (fun r o=>r = ((vi gl.length)) /\ o = [.cells [.aR 1 3 0 ((gl ++ [(⟨7,a,b⟩:Gate)]).length)],.rows 3 ((gl ++ [(⟨7,a,b⟩:Gate)]).map Gate.row)]):=by
 refine ay.of Try.func175 U U U (n:=11) ae (aL U) (.sr (.an (.nil (.sr ?_))))
 refine .mv ?_
 refine .mv ?_
 refine .mv ?_
 refine .bI [0,1] [] sT (jq (gl:=gl) (k:=7) (a:=a) (b:=b) om) U (.named U U (.ai U U (.ai U U (.ai U U .nil)))) ⟨U,U,trivial⟩ U ae (fun _ h=>by cases h) (fun _ h=>by cases h) ae ae ?_
 rintro r aJ ⟨rfl,rfl⟩ _
 refine ⟨⟨rfl,(by intro ob aY; simp only [List.mem_cons,List.not_mem_nil,or_false] at aY; rcases aY with rfl | rfl <;> rfl),.inl rfl⟩,(.an (.nil (.ret ?_)))⟩
 exact ⟨_,_,U,U,U,U⟩
theorem fP{gl:List Gate}(tp:gl.length <= 100000000):ay Try.prog 178 [.ptr 0 0 0 0] [.cells [.aR 1 3 0 gl.length],.rows 3 (gl.map Gate.row)] [0] (fun r o=>r = ((vi gl.length)) /\ o = [.cells [.aR 1 3 0 ((gl ++ [(⟨1,0,0⟩:Gate)]).length)],.rows 3 ((gl ++ [(⟨1,0,0⟩:Gate)]).map Gate.row)]):=by
 refine ay.of Try.func178 U U U (n:=5) ae (aL U) (.sr (.an (.nil (.sr ?_))))
 refine .mv ?_
 refine .bI [0,1] [] sT (jq (gl:=gl) (k:=1) (a:=0) (b:=0) om) U (.named U U (.ai U U (.ai U U (.ai U U .nil)))) ⟨U,U,trivial⟩ U ae (fun _ h=>by cases h) (fun _ h=>by cases h) ae ae ?_
 rintro r aJ ⟨rfl,rfl⟩ _
 refine ⟨⟨rfl,(by intro ob aY; simp only [List.mem_cons,List.not_mem_nil,or_false] at aY; rcases aY with rfl | rfl <;> rfl),.inl rfl⟩,(.an (.nil (.ret ?_)))⟩
 exact ⟨_,_,U,U,U,U⟩
open Go Go.AW Go.Proofs
theorem choose_spec{gl:List Gate}(tp:gl.length <= 90000000){s v y n:Int}:ay Try.prog 97 [.ptr 0 0 0 0,vi s,vi v,vi y,vi n] [.cells [.aR 1 3 0 gl.length],.rows 3 (gl.map Gate.row)] [0] (fun r o=>r = ((vi ((gl.length:Int) + 2))) /\ o = [.cells [.aR 1 3 0 ((yx gl s v y n).length)],.rows 3 ((yx gl s v y n).map Gate.row)]):=by
 refine ay.of Try.func97 U U U (n:=25) ae (aL U) (.sr (.an (.nil (.sr ?_))))
 refine .mv ?_
 refine .mv ?_
 refine .mv ?_
 refine .bI [0,1] [] tl (g6 (gl:=gl) (a:=s) (b:=y) om) U (.named U U (.ai U U (.ai U U .nil))) ⟨U,U,trivial⟩ U ae (fun _ h=>by cases h) (fun _ h=>by cases h) ae ae ?_
 rintro r aJ ⟨rfl,rfl⟩ _
 refine ⟨⟨rfl,(by intro ob aY; simp only [List.mem_cons,List.not_mem_nil,or_false] at aY; rcases aY with rfl | rfl <;> rfl),.inl rfl⟩,(.an (.nil (.sr ?_)))⟩
 refine .mv ?_
 refine .mv ?_
 refine .mv ?_
 refine .bI [0,1] [] tl (g6 (gl:=gl ++ [(⟨5,s,y⟩:Gate)]) (a:=v) (b:=n) aH) U (.named U U (.ai U U (.ai U U .nil))) ⟨U,U,trivial⟩ U ae (fun _ h=>by cases h) (fun _ h=>by cases h) ae ae ?_
 rintro r aJ ⟨rfl,rfl⟩ _
 refine ⟨⟨rfl,(by intro ob aY; simp only [List.mem_cons,List.not_mem_nil,or_false] at aY; rcases aY with rfl | rfl <;> rfl),.inl rfl⟩,(.an (.nil (.sr ?_)))⟩
 refine .mv ?_
 refine .mv ?_
 refine .mv ?_
 refine .bI [0,1] [] yj (rO (gl:=(gl ++ [(⟨5,s,y⟩:Gate)]) ++ [(⟨5,v,n⟩:Gate)]) (a:=(gl.length:Int)) (b:=(((gl ++ [(⟨5,s,y⟩:Gate)]).length:Nat):Int)) aH) U (.named U U (.ai U U (.ai U U .nil))) ⟨U,U,trivial⟩ U ae (fun _ h=>by cases h) (fun _ h=>by cases h) ae ae ?_
 rintro r aJ ⟨rfl,rfl⟩ _
 refine ⟨⟨rfl,(by intro ob aY; simp only [List.mem_cons,List.not_mem_nil,or_false] at aY; rcases aY with rfl | rfl <;> rfl),.inl rfl⟩,(.an (.nil (.ret ?_)))⟩
 exact ⟨_,_,U,U,CR (fun (z0:Int)=>X.v (.int .i64 z0)) (by simp [Int.add_assoc]),by rw [<- I9]; rfl⟩
theorem s9{c:Int}{gl:List Gate}(hg:Good gl)(tp:gl.length <= 50000000){k t u:Int}{a b:List Int}{f h e:Nat -> List Bool -> Bool}(hk:5 <= k /\ k <= 7)(ha:Ws c gl a f t)(hb:Ws c gl b h t)(hl:a.length = b.length)(tk:a.length <= 1000)(hu:t + 20 <= u)(he:∀ i ins,e i ins = if k = 5 then (f i ins && h i ins) else if k = 6 then (f i ins || h i ins) else (f i ins ^^ h i ins)):ay Try.prog 128 [.ptr 0 0 0 0,vi k,.fz 1 (a.map ag),.fz 1 (b.map ag)] [.cells [.aR 1 3 0 gl.length],.rows 3 (gl.map Gate.row)] [0] (fun r o=>∃ (l:List Gate) (out:List Int),Ext gl l /\ l.length <= gl.length + a.length /\ out.length = a.length /\ Ws c l out e u /\ r = .dn 1 (out.map ag) /\ o = [.cells [.aR 1 3 0 l.length],.rows 3 (l.map Gate.row)]):=by
 refine ay.of Try.func128 U U U (n:=32) ae (aL U) (.sr (.an (.nil (.sr ?_))))
 refine .an ?_
 refine .sh (Sh.nil (d:=9) 109 1 U ae) (.nil (.seq (.sr (.mv ?_))))
 refine .vl (Y.qy (n:=a.length) az U (congrArg some (List.length_map ..))) (.mv ?_)
 refine .nil (.block (.eg (fun (ej:Nat) (aZ:List Gate) (oZ:List Int)=>⟨[(0,.ptr 0 0 0 0),(1,vi k),(2,.fz 1 (a.map ag)),(3,.fz 1 (b.map ag)),(9,.aR 109 1 0 oZ.length),(12,vi a.length),(13,vi ej)],[(0,.cells [.aR 1 3 0 aZ.length]),(1,.rows 3 (aZ.map Gate.row)),(109,.rows 1 (oZ.map ag))]⟩) (fun ej aZ oZ=>((ej:Int) <= (a.length:Int)) /\ (yw c gl aZ oZ e u ej)) (fun ej aZ oZ=>((a.length:Int) - (ej:Int)).toNat) 0 gl ([]:List Int) (⟨pj,yw.init hg⟩) (Le.mk (.c4 (.cons (aP U aH) (.c (.cons (ak U bj) .nil)))) (.cons (ax U ep) (.c (.c .nil)))) (fun ej aZ oZ qM=>?_)))
 obtain ⟨Ec,hM⟩:=qM
 refine .sr (.vl (Y.zd U U) (.nil (.seq (.a8 U (fun Gw=>?_) (fun Gw=>?_)))))
 refine .skip (.seq (.block (.sr (.mv ?_))))
 refine .an (.nil ?_)
 have MV:=hM.len; have sK:=hM.ol
 refine .dS U (.blind 0 U au (aw.move U U) ae (.bX (n:=4) [1,2,3,4,5,6,7,8,9,10] [11,12,13,14] 11 U au ?_))
 refine .cn 1 U (Y.zh U U) (.cn 2 U (Y.zh U U) (.cn 3 U (Y.zh U U) (.cn 4 U (Y.zh U U) (.cn 5 U (Y.qt (m:=ej) az U U bj (aq (d:=0) om)) (.cn 6 U (Y.zb bw U U U U) (.cn 7 U (Y.zh U U) (.cn 8 U (Y.zh U U) (.cn 9 U (Y.qt (m:=ej) az U U bj (aq (d:=0) om)) (.cn 10 U (Y.zb bw U U U U) (.nil (.one 11 U au (.bI [0,1] [] sT (jq (gl:=aZ) (k:=k) (a:=a.getD ej 0) (b:=b.getD ej 0) om) U (.named U U (.ai U U (.ai U U (.ai U U .nil)))) ⟨U,U,trivial⟩ U ae (fun _ h=>by cases h) (fun _ h=>by cases h) ae ae ?_))))))))))))
 rintro r aJ ⟨rfl,rfl⟩ _
 refine ⟨⟨rfl,(by intro ob aY; simp only [List.mem_cons,List.not_mem_nil,or_false] at aY; rcases aY with rfl | rfl <;> rfl),.inl rfl⟩,(.nil ⟨U,(.one 12 U au (.buildSlice (([(aZ.length:Int)]:List Int).map ag) az cP U U U U U (aj (s:=1) (f:=ag) (fun _=>U)) U U U ae ?_))⟩)⟩
 refine .nil ⟨U,(.one 13 U au (.cL ag (oZ ++ ([(aZ.length:Int)]:List Int)) az cP U U U U (aV aH) (aM aH) (bs aH) aH aH ae ae ?_))⟩
 refine .nil ⟨U,(.bX (n:=0) [14] [] 0 U au (.cn 14 U (Y.qf U U) (.nil (.done au (.region (.vl (Y.qb U U aH) (.mv ?_)))))))⟩
 refine .nil (⟨ej + 1,aZ ++ [(⟨k,a.getD ej 0,b.getD ej 0⟩:Gate)],oZ ++ ([(aZ.length:Int)]:List Int),⟨om,hM.two hk (ha.bit ej om) (hb.bit ej om) hu (he ej)⟩,om,Le.mk (.c4 (.cons (aP U om) (.c (.cons (ak U bj) .nil)))) (.cons (ax U ep) (.c (.c .nil)))⟩)
 refine .exit (.sr (.mv ?_))
 refine .an ?_
 exact .sh (Sh.cO (d:=8) (o:=109) U U (aF om) ae) (.nil (.ret ⟨_,_,U,U,_,_,hM.ext,by have:=hM.len; omega,by have:=hM.ol; omega,hM.ws,U,U⟩))
theorem DF{c:Int}{gl:List Gate}(hg:Good gl)(tp:gl.length <= 50000000){t:Int}{a:List Int}{f:Nat -> List Bool -> Bool}(ha:Ws c gl a f t)(tk:a.length <= 1000):ay Try.prog 177 [.ptr 0 0 0 0,.fz 1 (a.map ag)] [.cells [.aR 1 3 0 gl.length],.rows 3 (gl.map Gate.row)] [0] (fun r o=>∃ (l:List Gate) (out:List Int),Ext gl l /\ l.length <= gl.length + a.length /\ out.length = a.length /\ Ws c l out (fun k ins=>!f k ins) (t + 10) /\ r = .dn 1 (out.map ag) /\ o = [.cells [.aR 1 3 0 l.length],.rows 3 (l.map Gate.row)]):=by
 refine ay.of Try.func177 U U U (n:=22) ae (aL U) (.sr (.an (.nil (.sr ?_))))
 refine .an ?_
 refine .sh (Sh.nil (d:=5) 105 1 U ae) (.nil (.seq (.sr (.mv ?_))))
 refine .vl (Y.qy (n:=a.length) az U (congrArg some (List.length_map ..))) (.mv ?_)
 refine .nil (.block (.eg (fun (pa:Nat) (aZ:List Gate) (bd:List Int)=>⟨[(0,.ptr 0 0 0 0),(5,.aR 105 1 0 bd.length),(8,.fz 1 (a.map ag)),(9,vi a.length),(10,vi pa)],[(0,.cells [.aR 1 3 0 aZ.length]),(1,.rows 3 (aZ.map Gate.row)),(105,.rows 1 (bd.map ag))]⟩) (fun pa aZ bd=>((pa:Int) <= (a.length:Int)) /\ (yw c gl aZ bd (fun k ins=>!f k ins) (t + 10) pa)) (fun pa aZ bd=>((a.length:Int) - (pa:Int)).toNat) 0 gl ([]:List Int) (⟨pj,yw.init hg⟩) (Le.mk (.c (.cons (aP U aH) (.c2 (.cons (ak U bj) .nil)))) (.cons (ax U ep) (.c (.c .nil)))) (fun pa aZ bd qM=>?_)))
 obtain ⟨Ec,hM⟩:=qM
 refine .sr (.vl (Y.zd U U) (.nil (.seq (.a8 U (fun RJ=>?_) (fun RJ=>?_)))))
 refine .skip (.seq (.block (.sr (.vl (Y.qt (m:=pa) az U U bj (aq (d:=0) om)) (.ld bw ?_)))))
 refine .an (.nil ?_)
 have MV:=hM.len; have sK:=hM.ol
 refine .region (.mv ?_)
 refine .mv ?_
 refine .mv ?_
 refine .bI [0,1] [] uv (gT (gl:=aZ) (a:=a.getD pa 0) om) U (.named U U (.ai U U .nil)) ⟨U,U,trivial⟩ U ae (fun _ h=>by cases h) (fun _ h=>by cases h) ae ae ?_
 rintro r aJ ⟨rfl,rfl⟩ _
 refine ⟨⟨rfl,(by intro ob aY; simp only [List.mem_cons,List.not_mem_nil,or_false] at aY; rcases aY with rfl | rfl <;> rfl),.inl rfl⟩,(.buildSlice (([(aZ.length:Int)]:List Int).map ag) az cP U U U U U (aj (s:=1) (f:=ag) (fun _=>U)) U U U ae ?_)⟩
 refine .cL ag (bd ++ ([(aZ.length:Int)]:List Int)) az cP U U U U (aV aH) (aM aH) (bs aH) aH aH ae ae ?_
 refine .an (.nil (.region ?_))
 refine .vl (Y.qb U U aH) (.mv ?_)
 refine .nil (⟨pa + 1,aZ ++ [(⟨4,a.getD pa 0,0⟩:Gate)],bd ++ ([(aZ.length:Int)]:List Int),⟨om,hM.not ha om⟩,om,Le.mk (.c (.cons (aP U om) (.c2 (.cons (ak U bj) .nil)))) (.cons (ax U ep) (.c (.c .nil)))⟩)
 refine .exit (.sr (.mv ?_))
 refine .an ?_
 exact .sh (Sh.cO (d:=4) (o:=105) U U (aF om) ae) (.nil (.ret ⟨_,_,U,U,_,_,hM.ext,by have:=hM.len; omega,by have:=hM.ol; omega,hM.ws,U,U⟩))
open Go Go.AW Go.Proofs
theorem uO{c:Int}{gl:List Gate}(hg:Good gl)(tp:gl.length <= 50000000){t:Int}{a:List Int}{f:Nat -> List Bool -> Bool}(ha:Ws c gl a f t)(tk:a.length <= 5000)(ht:0 <= t):ay Try.prog 142 [.ptr 0 0 0 0,.fz 1 (a.map ag)] [.cells [.aR 1 3 0 gl.length],.rows 3 (gl.map Gate.row)] [0] (fun r o=>∃ (l:List Gate) (x:Int),Ext gl l /\ l.length <= gl.length + a.length + 1 /\ Wr c l x (fun ins=>jU (fun k=>f k ins) a.length) (t + 20 * (dF a.length:Int)) /\ r = (vi x) /\ o = [.cells [.aR 1 3 0 l.length],.rows 3 (l.map Gate.row)]):=by
 refine ay.of Try.func142 U U U (n:=53) ae (aL U) (.sr (.an ?_))
 refine .nil (.seq (.sr (.mv ?_)))
 refine .vl (Y.qy (n:=a.length) az U (congrArg some (List.length_map ..))) (.vl (Y.qm U U) (.nil (.a8 U (fun c9=>?_) (fun c9=>?_))))
 refine .sr (.mv ?_)
 refine .bI [0,1] [] Fp (fP (gl:=gl) aH) U (.named U U .nil) ⟨U,U,trivial⟩ U ae (fun _ h=>by cases h) (fun _ h=>by cases h) ae ae ?_
 rintro r aJ ⟨rfl,rfl⟩ _
 refine ⟨⟨rfl,(by intro ob aY; simp only [List.mem_cons,List.not_mem_nil,or_false] at aY; rcases aY with rfl | rfl <;> rfl),.inl rfl⟩,(.an (.nil (.ret ?_)))⟩
 exact ⟨_,_,U,U,_,_,Ext.MO hg ae,by simp,(Wr.zero om).as fun ins=>by rw [show a.length = 0 by omega]; rfl,U,U⟩
 refine .skip (.seq (.block (.fH (fun (jG:List Int) (aZ:List Gate)=>⟨[(0,.ptr 0 0 0 0),(1,.fz 1 (jG.map ag))],[(0,.cells [.aR 1 3 0 aZ.length]),(1,.rows 3 (aZ.map Gate.row))]⟩) (fun jG aZ=>(s5 c gl f a.length t aZ jG)) (fun jG aZ=>jG.length) a gl (s5.init hg ha om) (Le.mk (.c (.c .nil)) (.cons (ax U ep) (.c .nil))) (fun jG aZ qM=>?_))))
 have hI:=qM
 refine .seq (.sr (.mv ?_))
 refine .vl (Y.qy (n:=jG.length) az U (congrArg some (List.length_map ..))) (.vl (Y.qr U U) (.nil (.a8 U (fun Gw=>?_) (fun Gw=>?_))))
 refine .skip (.block (.seq ?_))
 have zL:=hI.lo; have qA:=hI.len; have hel:=hI.ext.len; have hex:∃ f t,Ws c aZ jG f t:=(by obtain ⟨f1,t1,h1,_⟩:=hI.ex; exact ⟨f1,t1,h1⟩)
 refine .region (.an ?_)
 refine .sh (Sh.nil (d:=5) 105 1 U ae) (.nil (.seq (.sr (.an (.nil (.block ?_))))))
 refine .eg (fun (sA:Nat) (fZ:List Gate) (jA:List Int)=>⟨[(0,.ptr 0 0 0 0),(1,.fz 1 (jG.map ag)),(5,.aR 105 1 0 jA.length),(6,vi sA)],[(0,.cells [.aR 1 3 0 fZ.length]),(1,.rows 3 (fZ.map Gate.row)),(105,.rows 1 (jA.map ag))]⟩) (fun sA fZ jA=>(uA c aZ jG fZ jA sA)) (fun sA fZ jA=>jG.length - sA) 0 aZ ([]:List Int) (uA.init hI.ext.dw) (Le.mk (.c2 (.cons (aP U aH) (.cons (ak U bj) .nil))) (.cons (ax U ep) (.c (.c .nil)))) (fun sA fZ jA LM=>?_)
 have hJ:=LM
 refine .seq (.seq ?_)
 have Ut:=hJ.hi
 refine .region (.mv ?_)
 refine .vl (Y.qb U U aH) (.mv ?_)
 refine .vl (Y.qy (n:=jG.length) az U (congrArg some (List.length_map ..))) (.vl (Y.zd U U) (.nil (.a8 U (fun tM=>?_) (fun tM=>?_))))
 refine .skip (.seq (.block ?_))
 have o5:=hJ.len; have Uu:=hJ.nl; have Uv:=hJ.even
 refine .dS U (.blind 0 U au (aw.move U U) ae (.bX (n:=4) [1,2,3,4,5,6,7,8,9,10] [11,12,13,14] 11 U au ?_))
 refine .cn 1 U (Y.zh U U) (.cn 2 U (Y.zh U U) (.cn 3 U (Y.zh U U) (.cn 4 U (Y.qt (m:=sA) az U U bj (aq (d:=0) om)) (.cn 5 U (Y.zb bw U U U U) (.cn 6 U (Y.zh U U) (.cn 7 U (Y.zh U U) (.cn 8 U (Y.qb U U om) (.cn 9 U (Y.qt (m:=sA + 1) az U U bj (aq (d:=0) om)) (.cn 10 U (Y.zb bw U U U U) (.nil (.one 11 U au (.bI [0,1] [] yj (rO (gl:=fZ) (a:=jG.getD sA 0) (b:=jG.getD (sA + 1) 0) om) U (.named U U (.ai U U (.ai U U .nil))) ⟨U,U,trivial⟩ U ae (fun _ h=>by cases h) (fun _ h=>by cases h) ae ae ?_))))))))))))
 rintro r aJ ⟨rfl,rfl⟩ _
 refine ⟨⟨rfl,(by intro ob aY; simp only [List.mem_cons,List.not_mem_nil,or_false] at aY; rcases aY with rfl | rfl <;> rfl),.inl rfl⟩,(.nil ⟨U,(.one 12 U au (.buildSlice (([(fZ.length:Int)]:List Int).map ag) az cP U U U U U (aj (s:=1) (f:=ag) (fun _=>U)) U U U ae ?_))⟩)⟩
 refine .nil ⟨U,(.one 13 U au (.cL ag (jA ++ ([(fZ.length:Int)]:List Int)) az cP U U U U (aV aH) (aM aH) (bs aH) aH aH ae ae ?_))⟩
 refine .nil ⟨U,(.bX (n:=0) [14] [] 0 U au (.cn 14 U (Y.qf U U) (.nil (.done au (.region (.mv ?_))))))⟩
 refine .vl (Y.qb U U aH) (.an ?_)
 refine .nil (⟨sA + 2,fZ ++ [(⟨6,jG.getD sA 0,jG.getD (sA + 1) 0⟩:Gate)],jA ++ ([(fZ.length:Int)]:List Int),hJ.step om hex,om,Le.mk (.c2 (.cons (aP U aH) (.cons (ak U bj) .nil))) (.cons (ax U ep) (.c (.c .nil)))⟩)
 refine .exit (.fS (fun (jr:List Int)=>⟨[(0,.ptr 0 0 0 0),(5,.aR 105 1 0 jr.length)],[(0,.cells [.aR 1 3 0 fZ.length]),(1,.rows 3 (fZ.map Gate.row)),(105,.rows 1 (jr.map ag))]⟩) (fun jr=>s5 c gl f a.length t fZ jr /\ jr.length < jG.length) ?_ (fun jr yI=>?_))
 refine .seq ?_
 have o5:=hJ.len; have Uu:=hJ.nl; have Uv:=hJ.even; have Ut:=hJ.hi
 refine .region (.mv ?_)
 refine .vl (Y.qy (n:=jG.length) az U (congrArg some (List.length_map ..))) (.vl (Y.zt U U om) (.vl (Y.qm U U) (.nil (.a8 U (fun rK=>?_) (fun rK=>?_)))))
 refine .region (.mv ?_)
 refine .mv ?_
 refine .mv ?_
 refine .vl (Y.qy (n:=jG.length) az U (congrArg some (List.length_map ..))) (.vl (Y.wc U U aH) (.vl (Y.qt (m:=((jG.length:Int) - 1).toNat) az U U om (aq (d:=0) om)) (.ld bw ?_)))
 refine .buildSlice (([jG.getD (((jG.length:Int) - 1).toNat) 0]:List Int).map ag) az cP U U U U U (aj (s:=1) (f:=ag) (fun _=>U)) U U U ae ?_
 refine .cL ag (jA ++ ([jG.getD (((jG.length:Int) - 1).toNat) 0]:List Int)) az cP U U U U (aV aH) (aM aH) (bs aH) aH aH ae ae ?_
 refine .an ?_
 refine .nil (⟨jA ++ ([jG.getD (((jG.length:Int) - 1).toNat) 0]:List Int),by have hx:=hI.PM hJ om om om; rw [show jG.length - 1 = ((jG.length:Int) - 1).toNat by omega] at hx; exact ⟨hx,by rw [List.length_append,List.length_singleton]; omega⟩,Le.mk (.c (.cons (aP U om) .nil)) (.c2 (.c .nil))⟩)
 refine .skip (⟨jA,⟨hI.next hJ om om om,om⟩,Le.mk (.c (.cons (aP U om) .nil)) (.c2 (.c .nil))⟩)
 refine .sh (Sh.cO (d:=5) (o:=105) U U (aF om) ae) (.sh (Sh.bS (d:=5) (jr.map ag) U fI (bN.map aE)) (.region (.mv ?_)))
 refine .an ?_
 refine .nil ⟨jr,fZ,yI.1,by have:=yI.2; omega,Le.mk (.c (.c .nil)) (.cons (ax U ep) (.c .nil))⟩
 refine .exit (.seq ?_)
 have zL:=hI.lo
 refine .region (.mv ?_)
 refine .vl (Y.qt (m:=0) az U U bj (aq (d:=0) om)) (.ld bw ?_)
 refine .an (.nil (.ret ?_))
 exact ⟨_,_,U,U,_,_,hI.ext,by have:=hI.len; omega,hI.done om,U,U⟩
open Go Go.AW Go.Proofs
theorem pb{l:List bn}(hl:l.length <= 8796093022208):ay Try.prog 198 [.fz 2 (l.map bn.row)] [] [] (fun r o=>r = .dn 2 (l.map bn.row) /\ o = []):=by
 refine ay.of Try.func198 U U U (n:=8) ae (aL U) (.sr (.an ?_))
 refine .nil (.seq (.sr (.mv ?_)))
 refine .J7 ea U U ae (fun b4 Kd=>?_)
 refine .nil (.cond U (fun c4=>?_) (fun c4=>?_))
 refine .sr (.an ?_)
 exact .nil (.sh (Sh.zX (d:=2) 2 U) (.ret ⟨_,_,U,U,(CR (fun (z0:List bn)=>X.dn 2 (z0.map bn.row)) (by have:=Kd cU; simpa using this:([]:List bn) = l):X.dn 2 (([]:List bn).map bn.row) = X.dn 2 (l.map bn.row)),U⟩))
 refine .skip (.sr (.buildSlice (([]:List bn).map bn.row) ea jj U U U U U (aj (s:=2) (f:=bn.row) (fun _=>U)) U U U ae ?_))
 refine .mv ?_
 refine .sh (Sh.cz (d:=5) (n:=([]:List bn).length) 105 (([]:List bn).map bn.row) U fI (aF U) ae) (.g5 ((([]:List bn) ++ l).map bn.row) (([]:List bn) ++ l).length ea jj U U U U (aV aH) (aM aH) (bs aH) aH aH ae ae ?_)
 refine .an ?_
 exact .sh (Sh.cO (d:=2) (o:=105) U U (aF om) ae) (.nil (.ret ⟨_,_,U,U,(CR (fun (z0:List bn)=>X.dn 2 (z0.map bn.row)) (U:(([]:List bn) ++ l) = l):X.dn 2 ((([]:List bn) ++ l).map bn.row) = X.dn 2 (l.map bn.row)),U⟩))
theorem ta{c:Int}{gl:List Gate}(hg:Good gl)(tp:gl.length <= 40000000){w:Nat}{t:Int}{a b:List Int}{A B:List Bool -> BitVec w}(ha:Wd c gl a w A t)(hb:Wd c gl b w B t)(hw:1 <= w /\ w <= 64)(ht:0 <= t):ay Try.prog 130 [.ptr 0 0 0 0,.fz 1 (a.map ag),.fz 1 (b.map ag)] [.cells [.aR 1 3 0 gl.length],.rows 3 (gl.map Gate.row)] [0] (fun r o=>∃ (l:List Gate) (x:Int),Ext gl l /\ l.length <= gl.length + 200 /\ Wr c l x (fun ins=>decide (A ins ≠ B ins)) (t + 20 + 20 * (dF w:Int)) /\ r = (vi x) /\ o = [.cells [.aR 1 3 0 l.length],.rows 3 (l.map Gate.row)]):=by
 refine ay.of Try.func130 U U U (n:=31) ae (aL U) ?_
 have tk:=ha.len; have yA:=hb.len
 refine .sr (.an (.nil (.sr ?_)))
 refine .an ?_
 refine .sh (Sh.nil (d:=7) 107 1 U ae) (.nil (.seq (.sr (.mv ?_))))
 refine .vl (Y.qy (n:=a.length) az U (congrArg some (List.length_map ..))) (.mv ?_)
 refine .nil (.block (.eg (fun (dc:Nat) (aZ:List Gate) (kX:List Int)=>⟨[(0,.ptr 0 0 0 0),(1,.fz 1 (a.map ag)),(2,.fz 1 (b.map ag)),(7,.aR 107 1 0 kX.length),(10,vi a.length),(11,vi dc)],[(0,.cells [.aR 1 3 0 aZ.length]),(1,.rows 3 (aZ.map Gate.row)),(107,.rows 1 (kX.map ag))]⟩) (fun dc aZ kX=>((dc:Int) <= (a.length:Int)) /\ (yw c gl aZ kX (fun k ins=>(A ins).getLsbD k ^^ (B ins).getLsbD k) (t + 20) dc)) (fun dc aZ kX=>((a.length:Int) - (dc:Int)).toNat) 0 gl ([]:List Int) (⟨pj,yw.init hg⟩) (Le.mk (.c2 (.c (.cons (aP U aH) (.c (.cons (ak U bj) .nil))))) (.cons (ax U ep) (.c (.c .nil)))) (fun dc aZ kX qM=>?_)))
 obtain ⟨Ec,hM⟩:=qM
 refine .sr (.vl (Y.zd U U) (.nil (.seq (.a8 U (fun Gl=>?_) (fun Gl=>?_)))))
 refine .skip (.seq (.block (.sr (.mv ?_))))
 refine .an (.nil ?_)
 have MV:=hM.len; have sK:=hM.ol
 refine .dS U (.blind 0 U au (aw.move U U) ae (.bX (n:=4) [1,2,3,4,5,6,7,8,9] [10,11,12,13] 10 U au ?_))
 refine .cn 1 U (Y.zh U U) (.cn 2 U (Y.zh U U) (.cn 3 U (Y.zh U U) (.cn 4 U (Y.qt (m:=dc) az U U bj (aq (d:=0) om)) (.cn 5 U (Y.zb bw U U U U) (.cn 6 U (Y.zh U U) (.cn 7 U (Y.zh U U) (.cn 8 U (Y.qt (m:=dc) az U U bj (aq (d:=0) om)) (.cn 9 U (Y.zb bw U U U U) (.nil (.one 10 U au (.bI [0,1] [] vH (mW (gl:=aZ) (a:=a.getD dc 0) (b:=b.getD dc 0) om) U (.named U U (.ai U U (.ai U U .nil))) ⟨U,U,trivial⟩ U ae (fun _ h=>by cases h) (fun _ h=>by cases h) ae ae ?_)))))))))))
 rintro r aJ ⟨rfl,rfl⟩ _
 refine ⟨⟨rfl,(by intro ob aY; simp only [List.mem_cons,List.not_mem_nil,or_false] at aY; rcases aY with rfl | rfl <;> rfl),.inl rfl⟩,(.nil ⟨U,(.one 11 U au (.buildSlice (([(aZ.length:Int)]:List Int).map ag) az cP U U U U U (aj (s:=1) (f:=ag) (fun _=>U)) U U U ae ?_))⟩)⟩
 refine .nil ⟨U,(.one 12 U au (.cL ag (kX ++ ([(aZ.length:Int)]:List Int)) az cP U U U U (aV aH) (aM aH) (bs aH) aH aH ae ae ?_))⟩
 refine .nil ⟨U,(.bX (n:=0) [13] [] 0 U au (.cn 13 U (Y.qf U U) (.nil (.done au (.region (.vl (Y.qb U U aH) (.mv ?_)))))))⟩
 refine .nil (⟨dc + 1,aZ ++ [(⟨7,a.getD dc 0,b.getD dc 0⟩:Gate)],kX ++ ([(aZ.length:Int)]:List Int),⟨om,hM.two (k:=7) (f:=fun k ins=>(A ins).getLsbD k) (h:=fun k ins=>(B ins).getLsbD k) ae (ha.bit dc om) (hb.bit dc om) (Int.le_refl _) (fun ins=>U)⟩,om,Le.mk (.c2 (.c (.cons (aP U om) (.c (.cons (ak U bj) .nil))))) (.cons (ax U ep) (.c (.c .nil)))⟩)
 refine .exit (.seq (.sh (Sh.cO (d:=7) (o:=107) U U (aF om) ae) (.sh (Sh.bS (d:=7) (kX.map ag) U fI (bN.map aE)) ?_)))
 have MV:=hM.len; have sK:=hM.ol; have Uw:=hM.ext.dw
 refine .region (.mv ?_)
 refine .mv ?_
 refine .bI [0,1] [] Fo (uO (gl:=aZ) Uw aH (a:=kX) hM.ws aH aH) U (.named U U (.ai U U .nil)) ⟨U,U,trivial⟩ U ae (fun _ h=>by cases h) (fun _ h=>by cases h) ae ae ?_
 rintro r aJ ⟨l30,x30,Ux,Xw,Qt,rfl,rfl⟩ _
 refine ⟨⟨rfl,(by intro ob aY; simp only [List.mem_cons,List.not_mem_nil,or_false] at aY; rcases aY with rfl | rfl <;> rfl),.inl rfl⟩,(.an (.nil (.ret ?_)))⟩
 exact ⟨_,_,U,U,_,_,hM.ext.trans Ux,om,(by rw [show kX.length = w by omega] at Qt; exact Qt.as fun ins=>Lo),U,U⟩
open Go Go.AW Go.Proofs
theorem yJ{c:Int}{gl:List Gate}(hg:Good gl)(tp:gl.length <= 50000000){t:Int}{ps:List bn}{G P:Nat -> List Bool -> Bool}(hp:Wp c gl ps G P t)(hn:ps.length <= 64):ay Try.prog 195 [.ptr 0 0 0 0,.fz 2 (ps.map bn.row)] [.cells [.aR 1 3 0 gl.length],.rows 3 (gl.map Gate.row)] [0] (fun r o=>∃ (l:List Gate) (out:List bn),Ext gl l /\ l.length <= gl.length + 1152 /\ out.length = ps.length /\ (∀ i,i < ps.length -> Wr c l (out.getD i default).g (fun ins=>ca (fun k=>G k ins) (fun k=>P k ins) 0 (i + 1) false) (t + 40 * (dF ps.length:Int))) /\ r = .fz 2 (out.map bn.row) /\ o = [.cells [.aR 1 3 0 l.length],.rows 3 (l.map Gate.row)]):=by
 refine ay.of Try.func195 U U U (n:=78) ae (aL U) (.sr (.an (.nil (.sr ?_))))
 refine .mv ?_
 refine .bm JN (pb (l:=ps) (om)) U (.ai U U .nil) ae U ?_
 refine .cj U ae (.sh (Sh.bS (d:=5) (ps.map bn.row) U fI (bN.map bn.bx)) (.nil (.seq (.sr (.an (.nil (.block ?_)))))))
 refine .eg (fun (bd:List bn) (iA:Nat) (aZ:List Gate)=>⟨[(0,.ptr 0 0 0 0),(5,.fz 2 (bd.map bn.row)),(6,vi iA)],[(0,.cells [.aR 1 3 0 aZ.length]),(1,.rows 3 (aZ.map Gate.row))]⟩) (fun bd iA aZ=>(∃ j,rB c gl G P t ps.length aZ bd iA j)) (fun bd iA aZ=>ps.length - iA) ps 1 gl (⟨0,rB.init hg hp⟩) (Le.mk (.c2 (.cons (ak U bj) .nil)) (.cons (ax U ep) (.c .nil))) (fun bd iA aZ qM=>?_)
 have hI:=qM
 refine .seq (.sr (.mv ?_))
 refine .mv ?_
 refine .vl (Y.qy (n:=bd.length) ea U (congrArg some (List.length_map ..))) (.vl (Y.zd U U) (.nil (.a8 U (fun tL=>?_) (fun tL=>?_))))
 refine .skip (.seq (.block (.seq ?_)))
 obtain ⟨j,hI⟩:=hI; have hdp:=hI.Lq; have sK:=hI.ol; have Uy:=hI.len; have o5:=hI.jl; have RV:dF ps.length <= 6:=nI om; have Zo:3 * ps.length * j <= 1152:=Nat.le_trans (Nat.mul_le_mul_left _ o5) (Nat.mul_le_mul (show 3 * ps.length <= 192 by omega) RV)
 refine .region (.mv ?_)
 refine .bm JN (pb (l:=bd) (om)) U (.ai U U .nil) ae U ?_
 refine .cj U ae (.sh (Sh.cz (d:=7) (n:=bd.length) 107 (bd.map bn.row) U fI (aF U) ae) (.nil (.seq (.sr (.mv ?_)))))
 refine .an (.nil (.block ?_))
 refine .eg (fun (cZ:Nat) (gi:List Gate) (eu:List bn)=>⟨[(0,.ptr 0 0 0 0),(5,.fz 2 (bd.map bn.row)),(6,vi iA),(7,.aR 107 2 0 bd.length),(8,vi cZ)],[(0,.cells [.aR 1 3 0 gi.length]),(1,.rows 3 (gi.map Gate.row)),(107,.rows 2 (eu.map bn.row))]⟩) (fun cZ gi eu=>(eu.length = bd.length) /\ ((cZ:Int) <= (bd.length:Int)) /\ (rC c aZ G P t ps.length bd iA j gi eu cZ)) (fun cZ gi eu=>ps.length - cZ) iA aZ bd (⟨om,om,rC.init hI⟩) (Le.mk (.c4 (.cons (ak U bj) .nil)) (.cons (ax U ep) (.c (.c .nil)))) (fun cZ gi eu Gx=>?_)
 obtain ⟨Kf,RW,hJ⟩:=Gx
 refine .seq (.sr (.mv ?_))
 refine .mv ?_
 refine .vl (Y.qy (n:=bd.length) ea U (congrArg some (List.length_map ..))) (.vl (Y.zd U U) (.nil (.a8 U (fun Uz=>?_) (fun Uz=>?_))))
 refine .skip (.kP (fun (sC:List Gate) (mX:List bn)=>⟨[(0,.ptr 0 0 0 0),(5,.fz 2 (bd.map bn.row)),(6,vi iA),(7,.aR 107 2 0 bd.length),(8,vi cZ)],[(0,.cells [.aR 1 3 0 sC.length]),(1,.rows 3 (sC.map Gate.row)),(107,.rows 2 (mX.map bn.row))]⟩) (fun sC mX=>(mX.length = bd.length) /\ (rC c aZ G P t ps.length bd iA j sC mX (cZ + 1))) ?_ (fun sC mX U9=>?_))
 refine .block (.seq ?_)
 have zL:=hJ.lo; have Zp:=hJ.len; have hJn:=hJ.nl
 refine .px 13 U au (.val (Y.zh U U) ae (.val (Y.zh U U) ae (.val (Y.zh U U) ae (.val (Y.qt (m:=cZ) ea U U bj (aq (d:=default) om)) ae (.val (Y.qp kU U U) ae (.val (Y.zb bw U U U U) ae (.val (Y.zh U U) ae (.val (Y.zh U U) ae (.val (Y.zh U U) ae (.val (Y.wc U U om) ae (.val (Y.qt (m:=((cZ:Int) - (iA:Int)).toNat) ea U U om (aq (d:=default) om)) ae (.val (Y.qp lW U U) ae (.val (Y.zb bw U U U U) ae (.nil (.bI [0,1] [] tl (g6 (gl:=gi) (a:=(bd.getD cZ default).p) (b:=(bd.getD (((cZ:Int) - (iA:Int)).toNat) default).g) om) U (.named U U (.ai U U (.ai U U .nil))) ⟨U,U,trivial⟩ U ae (fun _ h=>by cases h) (fun _ h=>by cases h) ae ae ?_)))))))))))))))
 rintro r aJ ⟨rfl,rfl⟩ _
 refine ⟨⟨rfl,(by intro ob aY; simp only [List.mem_cons,List.not_mem_nil,or_false] at aY; rcases aY with rfl | rfl <;> rfl),.inl rfl⟩,(.an (.nil (.sr ?_)))⟩
 refine .mv ?_
 refine .mv ?_
 refine .mv ?_
 refine .mv ?_
 refine .mv ?_
 refine .vl (Y.qt (m:=cZ) ea U U bj (aq (d:=default) om)) (.fa lW ?_)
 refine .ld bw ?_
 refine .mv ?_
 refine .bI [0,1] [] yj (rO (gl:=gi ++ [(⟨5,(bd.getD cZ default).p,(bd.getD (((cZ:Int) - (iA:Int)).toNat) default).g⟩:Gate)]) (a:=(bd.getD cZ default).g) (b:=(gi.length:Int)) aH) U (.named U U (.ai U U (.ai U U .nil))) ⟨U,U,trivial⟩ U ae (fun _ h=>by cases h) (fun _ h=>by cases h) ae ae ?_
 rintro r aJ ⟨rfl,rfl⟩ _
 refine ⟨⟨rfl,(by intro ob aY; simp only [List.mem_cons,List.not_mem_nil,or_false] at aY; rcases aY with rfl | rfl <;> rfl),.inl rfl⟩,(.vl (Y.qu (m:=cZ) ea U U bj om) (.fa lW ?_))⟩
 refine .eH ((eu.set cZ (⟨(((gi ++ [(⟨5,(bd.getD cZ default).p,(bd.getD (((cZ:Int) - (iA:Int)).toNat) default).g⟩:Gate)]).length:Nat):Int),(eu.getD cZ default).p⟩:bn)).map bn.row) fW U U U U U U U (aI (d:=default) om) (aL U) (cY U) ?_
 refine .nil (.sr (.mv ?_))
 refine .mv ?_
 refine .vl (Y.wc U U aH) (.mv ?_)
 refine .vl (Y.qq U U) (.nil (.a8 U (fun LG=>?_) (fun LG=>?_)))
 refine .dS U (.blind 0 U au (aw.move U U) ae (.blind 1 U au (aw.move U U) ae ?_))
 refine .bX (n:=4) [2,3,4,5,6,7,8,9,10,11,12,13,14] [15,16,17,18] 15 U au (.cn 2 U (Y.zh U U) (.cn 3 U (Y.zh U U) (.cn 4 U (Y.zh U U) (.cn 5 U (Y.qt (m:=cZ) ea U U bj (aq (d:=default) om)) (.cn 6 U (Y.qp kU U U) (.cn 7 U (Y.zb bw U U U U) (.cn 8 U (Y.zh U U) (.cn 9 U (Y.zh U U) (.cn 10 U (Y.zh U U) (.cn 11 U (Y.wc U U om) (.cn 12 U (Y.qt (m:=((cZ:Int) - (iA:Int)).toNat) ea U U om (aq (d:=default) om)) (.cn 13 U (Y.qp kU U U) (.cn 14 U (Y.zb bw U U U U) (.nil (.one 15 U au ?_)))))))))))))))
 refine .bI [0,1] [] tl (g6 (gl:=(gi ++ [(⟨5,(bd.getD cZ default).p,(bd.getD (((cZ:Int) - (iA:Int)).toNat) default).g⟩:Gate)]) ++ [(⟨6,(bd.getD cZ default).g,(gi.length:Int)⟩:Gate)]) (a:=(bd.getD cZ default).p) (b:=(bd.getD (((cZ:Int) - (iA:Int)).toNat) default).p) aH) U (.named U U (.ai U U (.ai U U .nil))) ⟨U,U,trivial⟩ U ae (fun _ h=>by cases h) (fun _ h=>by cases h) ae ae ?_
 rintro r aJ ⟨rfl,rfl⟩ _
 refine ⟨⟨rfl,(by intro ob aY; simp only [List.mem_cons,List.not_mem_nil,or_false] at aY; rcases aY with rfl | rfl <;> rfl),.inl rfl⟩,(.nil ⟨U,(.bX (n:=1) [16,17] [18] 18 U au (.cn 16 U (Y.qu (m:=cZ) ea U U bj om) (.cn 17 U (Y.qp kU U U) (.nil (.one 18 U au ?_)))))⟩)⟩
 refine .eH (((eu.set cZ (⟨(((gi ++ [(⟨5,(bd.getD cZ default).p,(bd.getD (((cZ:Int) - (iA:Int)).toNat) default).g⟩:Gate)]).length:Nat):Int),(eu.getD cZ default).p⟩:bn)).set cZ (⟨((eu.set cZ (⟨(((gi ++ [(⟨5,(bd.getD cZ default).p,(bd.getD (((cZ:Int) - (iA:Int)).toNat) default).g⟩:Gate)]).length:Nat):Int),(eu.getD cZ default).p⟩:bn)).getD cZ default).g,((((gi ++ [(⟨5,(bd.getD cZ default).p,(bd.getD (((cZ:Int) - (iA:Int)).toNat) default).g⟩:Gate)]) ++ [(⟨6,(bd.getD cZ default).g,(gi.length:Int)⟩:Gate)]).length:Nat):Int)⟩:bn)).map bn.row) fW U U U U U U U (aI (d:=default) aH) (aL U) (cY U) ?_
 refine .nil ⟨U,?_⟩
 refine .done au (⟨((gi ++ [(⟨5,(bd.getD cZ default).p,(bd.getD (((cZ:Int) - (iA:Int)).toNat) default).g⟩:Gate)]) ++ [(⟨6,(bd.getD cZ default).g,(gi.length:Int)⟩:Gate)]) ++ [(⟨5,(bd.getD cZ default).p,(bd.getD (((cZ:Int) - (iA:Int)).toNat) default).p⟩:Gate)],(eu.set cZ (⟨(((gi ++ [(⟨5,(bd.getD cZ default).p,(bd.getD (((cZ:Int) - (iA:Int)).toNat) default).g⟩:Gate)]).length:Nat):Int),(eu.getD cZ default).p⟩:bn)).set cZ (⟨((eu.set cZ (⟨(((gi ++ [(⟨5,(bd.getD cZ default).p,(bd.getD (((cZ:Int) - (iA:Int)).toNat) default).g⟩:Gate)]).length:Nat):Int),(eu.getD cZ default).p⟩:bn)).getD cZ default).g,((((gi ++ [(⟨5,(bd.getD cZ default).p,(bd.getD (((cZ:Int) - (iA:Int)).toNat) default).g⟩:Gate)]) ++ [(⟨6,(bd.getD cZ default).g,(gi.length:Int)⟩:Gate)]).length:Nat):Int)⟩:bn),⟨pj,by rw [List.set_set,show ((cZ:Int) - (iA:Int)).toNat = cZ - iA by omega]; (try rw [ku om]); exact rC.YV hI hJ om om U⟩,Le.mk (.c4 (.c .nil)) (.cons (ax U ep) (.c (.c .nil)))⟩)
 refine .skip (⟨(gi ++ [(⟨5,(bd.getD cZ default).p,(bd.getD (((cZ:Int) - (iA:Int)).toNat) default).g⟩:Gate)]) ++ [(⟨6,(bd.getD cZ default).g,(gi.length:Int)⟩:Gate)],eu.set cZ (⟨(((gi ++ [(⟨5,(bd.getD cZ default).p,(bd.getD (((cZ:Int) - (iA:Int)).toNat) default).g⟩:Gate)]).length:Nat):Int),(eu.getD cZ default).p⟩:bn),⟨pj,by rw [show ((cZ:Int) - (iA:Int)).toNat = cZ - iA by omega]; exact rC.Tz hI hJ om om⟩,Le.mk (.c4 (.c .nil)) (.cons (ax U ep) (.c (.c .nil)))⟩)
 obtain ⟨Qu,Jc⟩:=U9
 refine .region (.mv ?_)
 refine .vl (Y.qb U U aH) (.an ?_)
 refine .nil (⟨cZ + 1,sC,mX,⟨om,om,Jc⟩,om,Le.mk (.c4 (.cons (ak U bj) .nil)) (.cons (ax U ep) (.c (.c .nil)))⟩)
 refine .exit (.sh (Sh.cO (d:=7) (o:=107) U U (aF om) ae) (.sh (Sh.bS (d:=7) (eu.map bn.row) U fI (bN.map bn.bx)) (.region (.mv ?_))))
 refine .an (.nil (.region ?_))
 refine .mv ?_
 refine .vl (Y.zj U U om) (.an ?_)
 refine .nil (⟨eu,iA * 2,gi,⟨j + 1,hI.pass om hJ om⟩,om,Le.mk (.c2 (.cons (ak U bj) .nil)) (.cons (ax U ep) (.c .nil))⟩)
 refine .exit (.sr (.mv ?_))
 refine .an (.nil (.ret ?_))
 obtain ⟨j,hI⟩:=hI; have sK:=hI.ol; have Uy:=hI.len; have o5:=hI.jl; have RV:dF ps.length <= 6:=nI om; have Zo:3 * ps.length * j <= 1152:=Nat.le_trans (Nat.mul_le_mul_left _ o5) (Nat.mul_le_mul (show 3 * ps.length <= 192 by omega) RV); exact ⟨_,_,rfl,rfl,_,_,hI.ext,om,sK,fun i hi=>hI.done om hi,rfl,rfl⟩
open Go Go.AW Go.Proofs
theorem yK{c:Int}{gl:List Gate}(hg:Good gl)(tp:gl.length <= 40000000){t:Int}{x:Int}{ps:List bn}{G P:Nat -> List Bool -> Bool}{F0:List Bool -> Bool}(hp:Wp c gl ps G P t)(hx:Wr c gl x F0 t)(hn:1 <= ps.length /\ ps.length <= 64):ay Try.prog 176 [.ptr 0 0 0 0,.fz 2 (ps.map bn.row),vi x] [.cells [.aR 1 3 0 gl.length],.rows 3 (gl.map Gate.row)] [0] (fun r o=>∃ (l:List Gate) (out:List Int),Ext gl l /\ l.length <= gl.length + 1216 /\ out.length = ps.length /\ Ws c l out (AG F0 G P) (t + 20 + 40 * (dF ps.length:Int)) /\ r = .dn 1 (out.map ag) /\ o = [.cells [.aR 1 3 0 l.length],.rows 3 (l.map Gate.row)]):=by
 refine ay.of Try.func176 U U U (n:=42) ae (aL U) (.sr (.an (.nil (.sr ?_))))
 refine .mv ?_
 refine .mv ?_
 refine .mv ?_
 refine .vl (Y.qy (n:=ps.length) ea U (congrArg some (List.length_map ..))) (.vl (Y.wb U U (Lj (a:=ps.length) (b:=1) (by first | omega | (simp; omega)))) (.vl (Y.zy (l:=0) (h:=ps.length - 1) ea U (.none _) (.some U) aH aH (by rw [List.drop_zero,<- List.map_take])) (.bI [0,1] [] Pm (yJ (gl:=gl) (ps:=ps.take (ps.length - 1)) hg om hp.take (by rw [List.length_take]; omega)) U (.named U U (.ai U U .nil)) ⟨U,U,trivial⟩ U ae (fun _ h=>by cases h) (fun _ h=>by cases h) ae ae ?_)))
 rintro r aJ ⟨Xx,Gy,Je,Xy,Xz,UA,rfl,rfl⟩ _
 refine ⟨⟨rfl,(by intro ob aY; simp only [List.mem_cons,List.not_mem_nil,or_false] at aY; rcases aY with rfl | rfl <;> rfl),.inl rfl⟩,(.an (.nil (.seq ?_)))⟩
 have htk:(ps.take (ps.length - 1)).length = ps.length - 1:=by rw [List.length_take]; omega
 refine .region (.mv ?_)
 refine .buildSlice (([x]:List Int).map ag) az cP U U U U U (aj (s:=1) (f:=ag) (fun _=>U)) U U U ae ?_
 refine .cj U ae (.sh (Sh.cz (d:=8) (n:=([x]:List Int).length) 108 (([x]:List Int).map ag) U fI (aF U) ae) (.nil (.seq (.sr (.an (.nil (.block ?_)))))))
 refine .eg (fun (mY:Nat) (ew:List Gate) (pc:List Int)=>⟨[(0,.ptr 0 0 0 0),(1,.fz 2 (ps.map bn.row)),(7,.fz 2 (Gy.map bn.row)),(8,.aR 108 1 0 pc.length),(9,vi mY)],[(0,.cells [.aR 1 3 0 ew.length]),(1,.rows 3 (ew.map Gate.row)),(108,.rows 1 (pc.map ag))]⟩) (fun mY ew pc=>((mY:Int) <= (ps.length:Int)) /\ (AH c Xx ew F0 G P (t + 20 + 40 * (dF ps.length:Int)) pc mY)) (fun mY ew pc=>ps.length - mY) 1 Xx ([x]:List Int) (⟨om,AH.init Je.dw ((hx.ext Je).late om)⟩) (Le.mk (.c2 (.c (.cons (aP U om) (.cons (ak U bj) .nil)))) (.cons (ax U ep) (.c (.c .nil)))) (fun mY ew pc IY=>?_)
 obtain ⟨Kd,hS⟩:=IY
 refine .seq (.sr (.mv ?_))
 refine .mv ?_
 refine .vl (Y.qy (n:=ps.length) ea U (congrArg some (List.length_map ..))) (.vl (Y.zd U U) (.nil (.a8 U (fun mT=>?_) (fun mT=>?_))))
 refine .skip (.seq (.block ?_))
 have Zq:=hS.lo; have UB:=hS.len; have hSo:=hS.ol; have RY:=(hp.bit mY om).2.ext Je; have X0:=UA (mY - 1) om; rw [show mY - 1 + 1 = mY by omega] at X0; have So:=oS (show (ps.take (ps.length - 1)).length <= ps.length by omega)
 refine .dS U (.blind 0 U au (aw.move U U) ae (.bX (n:=4) [1,2,3,4,5,6,7,8,9,10,11,12] [13,14,15,16] 13 U au ?_))
 refine .cn 1 U (Y.zh U U) (.cn 2 U (Y.zh U U) (.cn 3 U (Y.zh U U) (.cn 4 U (Y.qt (m:=mY) ea U U bj (aq (d:=default) om)) (.cn 5 U (Y.qp kU U U) (.cn 6 U (Y.zb bw U U U U) (.cn 7 U (Y.zh U U) (.cn 8 U (Y.zh U U) (.cn 9 U (Y.wc U U om) (.cn 10 U (Y.qt (m:=((mY:Int) - 1).toNat) ea U U aH (aq (d:=default) aH)) (.cn 11 U (Y.qp lW U U) (.cn 12 U (Y.zb bw U U U U) (.nil (.one 13 U au (.bI [0,1] [] vH (mW (gl:=ew) (a:=(ps.getD mY default).p) (b:=(Gy.getD (((mY:Int) - 1).toNat) default).g) om) U (.named U U (.ai U U (.ai U U .nil))) ⟨U,U,trivial⟩ U ae (fun _ h=>by cases h) (fun _ h=>by cases h) ae ae ?_))))))))))))))
 rintro r aJ ⟨rfl,rfl⟩ _
 refine ⟨⟨rfl,(by intro ob aY; simp only [List.mem_cons,List.not_mem_nil,or_false] at aY; rcases aY with rfl | rfl <;> rfl),.inl rfl⟩,(.nil ⟨U,(.one 14 U au (.buildSlice (([(ew.length:Int)]:List Int).map ag) az cP U U U U U (aj (s:=1) (f:=ag) (fun _=>U)) U U U ae ?_))⟩)⟩
 refine .nil ⟨U,(.one 15 U au (.cL ag (pc ++ ([(ew.length:Int)]:List Int)) az cP U U U U (aV aH) (aM aH) (bs aH) aH aH ae ae ?_))⟩
 refine .nil ⟨U,(.bX (n:=0) [16] [] 0 U au (.cn 16 U (Y.qf U U) (.nil (.done au (.region (.mv ?_))))))⟩
 refine .vl (Y.qb U U aH) (.an ?_)
 refine .nil (⟨mY + 1,ew ++ [(⟨7,(ps.getD mY default).p,(Gy.getD (((mY:Int) - 1).toNat) default).g⟩:Gate)],pc ++ ([(ew.length:Int)]:List Int),⟨om,by rw [show ((mY:Int) - 1).toNat = mY - 1 by omega]; exact hS.step (t:=t + 40 * (dF ps.length:Int)) (RY.late om) (X0.late om) om⟩,om,Le.mk (.c2 (.c (.cons (aP U om) (.cons (ak U bj) .nil)))) (.cons (ax U ep) (.c (.c .nil)))⟩)
 refine .exit (.sr (.mv ?_))
 refine .an ?_
 exact .sh (Sh.cO (d:=6) (o:=108) U U (aF om) ae) (.nil (.ret ⟨_,_,U,U,_,_,Je.trans hS.ext,by have:=hS.len; omega,by have:=hS.ol; omega,hS.ws,U,U⟩))
open Go Go.AW Go.Proofs
theorem Gz{c:Int}{gl:List Gate}(hg:Good gl)(tp:gl.length <= 30000000){w:Nat}{t:Int}{a b:List Int}{A B:List Bool -> BitVec w}(ha:Wd c gl a w A t)(hb:Wd c gl b w B t)(hw:1 <= w /\ w <= 64)(ht:0 <= t):ay Try.prog 126 [.ptr 0 0 0 0,.fz 1 (a.map ag),.fz 1 (b.map ag)] [.cells [.aR 1 3 0 gl.length],.rows 3 (gl.map Gate.row)] [0] (fun r o=>∃ (l:List Gate) (out:List Int),Ext gl l /\ l.length <= gl.length + 1500 /\ Wd c l out w (fun ins=>A ins + B ins) (t + 40 + 40 * (dF w:Int)) /\ r = .dn 1 (out.map ag) /\ o = [.cells [.aR 1 3 0 l.length],.rows 3 (l.map Gate.row)]):=by
 refine ay.of Try.func126 U U U (n:=48) ae (aL U) ?_
 have tk:=ha.len; have yA:=hb.len
 refine .sr (.an (.nil (.sr ?_)))
 refine .an ?_
 refine .sh (Sh.nil (d:=7) 107 2 U ae) (.nil (.seq (.sr (.mv ?_))))
 refine .vl (Y.qy (n:=a.length) az U (congrArg some (List.length_map ..))) (.mv ?_)
 refine .nil (.block (.eg (fun (fh:Nat) (aZ:List Gate) (kX:List bn)=>⟨[(0,.ptr 0 0 0 0),(1,.fz 1 (a.map ag)),(2,.fz 1 (b.map ag)),(7,.aR 107 2 0 kX.length),(11,vi a.length),(12,vi fh)],[(0,.cells [.aR 1 3 0 aZ.length]),(1,.rows 3 (aZ.map Gate.row)),(107,.rows 2 (kX.map bn.row))]⟩) (fun fh aZ kX=>((fh:Int) <= (a.length:Int)) /\ (wL c gl aZ (fun k ins=>(A ins).getLsbD k) (fun k ins=>(B ins).getLsbD k) (t + 20) kX fh)) (fun fh aZ kX=>((a.length:Int) - (fh:Int)).toNat) 0 gl ([]:List bn) (⟨pj,wL.init hg⟩) (Le.mk (.c2 (.c (.cons (aP U aH) (.c (.cons (ak U bj) .nil))))) (.cons (ax U ep) (.c (.c .nil)))) (fun fh aZ kX qM=>?_)))
 obtain ⟨Ec,hT⟩:=qM
 refine .sr (.vl (Y.zd U U) (.nil (.seq (.a8 U (fun wW=>?_) (fun wW=>?_)))))
 refine .skip (.seq (.block (.sr (.mv ?_))))
 refine .an (.nil (.seq ?_))
 have Qv:=hT.len; have Qw:=hT.pl
 refine .px 9 U au (.val (Y.zh U U) ae (.val (Y.zh U U) ae (.val (Y.zh U U) ae (.val (Y.qt (m:=fh) az U U bj (aq (d:=0) om)) ae (.val (Y.zb bw U U U U) ae (.val (Y.zh U U) ae (.val (Y.zh U U) ae (.val (Y.qt (m:=fh) az U U bj (aq (d:=0) om)) ae (.val (Y.zb bw U U U U) ae (.nil (.bI [0,1] [] tl (g6 (gl:=aZ) (a:=a.getD fh 0) (b:=b.getD fh 0) om) U (.named U U (.ai U U (.ai U U .nil))) ⟨U,U,trivial⟩ U ae (fun _ h=>by cases h) (fun _ h=>by cases h) ae ae ?_)))))))))))
 rintro r aJ ⟨rfl,rfl⟩ _
 refine ⟨⟨rfl,(by intro ob aY; simp only [List.mem_cons,List.not_mem_nil,or_false] at aY; rcases aY with rfl | rfl <;> rfl),.inl rfl⟩,(.an (.nil ?_))⟩
 have Qv:=hT.len; have Qw:=hT.pl
 refine .dS U (.blind 0 U au (aw.move U U) ae (.blind 1 U au (aw.move U U) ae ?_))
 refine .bX (n:=5) [2,3,4,5,6,7,8,9,10] [11,12,13,14,15] 11 U au (.cn 2 U (Y.zh U U) (.cn 3 U (Y.zh U U) (.cn 4 U (Y.zh U U) (.cn 5 U (Y.qt (m:=fh) az U U bj (aq (d:=0) om)) (.cn 6 U (Y.zb bw U U U U) (.cn 7 U (Y.zh U U) (.cn 8 U (Y.zh U U) (.cn 9 U (Y.qt (m:=fh) az U U bj (aq (d:=0) om)) (.cn 10 U (Y.zb bw U U U U) (.nil (.one 11 U au (.bI [0,1] [] vH (mW (gl:=aZ ++ [(⟨5,a.getD fh 0,b.getD fh 0⟩:Gate)]) (a:=a.getD fh 0) (b:=b.getD fh 0) aH) U (.named U U (.ai U U (.ai U U .nil))) ⟨U,U,trivial⟩ U ae (fun _ h=>by cases h) (fun _ h=>by cases h) ae ae ?_))))))))))))
 rintro r aJ ⟨rfl,rfl⟩ _
 refine ⟨⟨rfl,(by intro ob aY; simp only [List.mem_cons,List.not_mem_nil,or_false] at aY; rcases aY with rfl | rfl <;> rfl),.inl rfl⟩,(.nil ⟨U,(.bX (n:=3) [12] [13,14,15] 13 U au (.cn 12 U (Y.qh BZ jj U U U) (.nil (.one 13 U au (.buildSlice (([(⟨(aZ.length:Int),(((aZ ++ [(⟨5,a.getD fh 0,b.getD fh 0⟩:Gate)]).length:Nat):Int)⟩:bn)]:List bn).map bn.row) ea jj U U U U U (aj (s:=2) (f:=bn.row) (fun _=>U)) U U U ae ?_)))))⟩)⟩
 refine .nil ⟨U,(.one 14 U au (.cL bn.row (kX ++ ([(⟨(aZ.length:Int),(((aZ ++ [(⟨5,a.getD fh 0,b.getD fh 0⟩:Gate)]).length:Nat):Int)⟩:bn)]:List bn)) ea jj U U U U (aV aH) (aM aH) (bs aH) aH aH ae ae ?_))⟩
 refine .nil ⟨U,(.bX (n:=0) [15] [] 0 U au (.cn 15 U (Y.qf U U) (.nil (.done au (.region (.vl (Y.qb U U aH) (.mv ?_)))))))⟩
 refine .nil (⟨fh + 1,(aZ ++ [(⟨5,a.getD fh 0,b.getD fh 0⟩:Gate)]) ++ [(⟨7,a.getD fh 0,b.getD fh 0⟩:Gate)],kX ++ ([(⟨(aZ.length:Int),(((aZ ++ [(⟨5,a.getD fh 0,b.getD fh 0⟩:Gate)]).length:Nat):Int)⟩:bn)]:List bn),⟨om,hT.step (ha.bit fh om) (hb.bit fh om) (Int.le_refl _) (Int.le_refl _)⟩,om,Le.mk (.c2 (.c (.cons (aP U om) (.c (.cons (ak U bj) .nil))))) (.cons (ax U ep) (.c (.c .nil)))⟩)
 refine .exit (.seq (.sh (Sh.cO (d:=7) (o:=107) U U (aF om) ae) (.sh (Sh.bS (d:=7) (kX.map bn.row) U fI (bN.map bn.bx)) ?_)))
 have Qv:=hT.len; have Qw:=hT.pl; have Zr:=hT.wp.bit 0 om
 refine .region (.mv ?_)
 refine .mv ?_
 refine .mv ?_
 refine .vl (Y.qt (m:=0) ea U U bj (aq (d:=default) om)) (.fa kU ?_)
 refine .ld bw ?_
 refine .bI [0,1] [] JM (yK (gl:=aZ) (ps:=kX) (x:=(kX.getD 0 default).p) hT.ext.dw om hT.wp (F0:=fun ins=>(A ins).getLsbD 0 ^^ (B ins).getLsbD 0) Zr.2 ⟨om,om⟩) U (.named U U (.ai U U (.ai U U .nil))) ⟨U,U,trivial⟩ U ae (fun _ h=>by cases h) (fun _ h=>by cases h) ae ae ?_
 rintro r aJ ⟨Zs,Qx,Mb,Qy,Qz,Mc,rfl,rfl⟩ _
 exact ⟨⟨rfl,(by intro ob aY; simp only [List.mem_cons,List.not_mem_nil,or_false] at aY; rcases aY with rfl | rfl <;> rfl),.inl rfl⟩,(.cj U ae (.nil (.ret ⟨_,_,U,U,_,_,hT.ext.trans Mb,om,(sum_add om Mc).late (by have:=hT.pl; rw [show kX.length = w by omega]; omega),U,U⟩)))⟩
theorem GA{c:Int}{gl:List Gate}(hg:Good gl)(tp:gl.length <= 30000000){w:Nat}{t:Int}{a b:List Int}{A B:List Bool -> BitVec w}(ha:Wd c gl a w A t)(hb:Wd c gl b w B t)(hw:1 <= w /\ w <= 64)(ht:0 <= t):ay Try.prog 127 [.ptr 0 0 0 0,.fz 1 (a.map ag),.fz 1 (b.map ag)] [.cells [.aR 1 3 0 gl.length],.rows 3 (gl.map Gate.row)] [0] (fun r o=>∃ (l:List Gate) (out:List Int),Ext gl l /\ l.length <= gl.length + 1500 /\ Wd c l out w (fun ins=>A ins - B ins) (t + 50 + 40 * (dF w:Int)) /\ r = .dn 1 (out.map ag) /\ o = [.cells [.aR 1 3 0 l.length],.rows 3 (l.map Gate.row)]):=by
 refine ay.of Try.func127 U U U (n:=69) ae (aL U) ?_
 have tk:=ha.len; have yA:=hb.len
 refine .sr (.an (.nil (.sr ?_)))
 refine .mv ?_
 refine .mv ?_
 refine .bI [0,1] [] Pk (DF (gl:=gl) (a:=b) hg om hb.ws om) U (.named U U (.ai U U .nil)) ⟨U,U,trivial⟩ U ae (fun _ h=>by cases h) (fun _ h=>by cases h) ae ae ?_
 rintro r aJ ⟨X1,oc,GB,X2,X3,Q0,rfl,rfl⟩ _
 refine ⟨⟨rfl,(by intro ob aY; simp only [List.mem_cons,List.not_mem_nil,or_false] at aY; rcases aY with rfl | rfl <;> rfl),.inl rfl⟩,(.cj U ae (.sh (Sh.bS (d:=7) (oc.map ag) U fI (bN.map aE)) (.nil (.sr (.an ?_)))))⟩
 refine .sh (Sh.nil (d:=8) 108 2 U ae) (.nil (.seq (.sr (.mv ?_))))
 refine .vl (Y.qy (n:=a.length) az U (congrArg some (List.length_map ..))) (.mv ?_)
 refine .nil (.block ?_)
 refine .eg (fun (fi:Nat) (ew:List Gate) (qQ:List bn)=>⟨[(0,.ptr 0 0 0 0),(1,.fz 1 (a.map ag)),(2,.fz 1 (b.map ag)),(7,.fz 1 (oc.map ag)),(8,.aR 108 2 0 qQ.length),(16,vi a.length),(17,vi fi)],[(0,.cells [.aR 1 3 0 ew.length]),(1,.rows 3 (ew.map Gate.row)),(108,.rows 2 (qQ.map bn.row))]⟩) (fun fi ew qQ=>((fi:Int) <= (a.length:Int)) /\ (wL c X1 ew (fun k ins=>(A ins).getLsbD k) (fun k ins=>!(B ins).getLsbD k) (t + 30) qQ fi)) (fun fi ew qQ=>((a.length:Int) - (fi:Int)).toNat) 0 X1 ([]:List bn) (⟨pj,wL.init GB.dw⟩) (Le.mk (.c4 (.cons (aP U aH) (.c (.cons (ak U bj) .nil)))) (.cons (ax U ep) (.c (.c .nil)))) (fun fi ew qQ IY=>?_)
 obtain ⟨Kd,hT⟩:=IY
 refine .sr (.vl (Y.zd U U) (.nil (.seq (.a8 U (fun UC=>?_) (fun UC=>?_)))))
 refine .skip (.seq (.block (.sr (.mv ?_))))
 refine .an (.nil (.seq ?_))
 have Qv:=hT.len; have Qw:=hT.pl
 refine .px 9 U au (.val (Y.zh U U) ae (.val (Y.zh U U) ae (.val (Y.zh U U) ae (.val (Y.qt (m:=fi) az U U bj (aq (d:=0) om)) ae (.val (Y.zb bw U U U U) ae (.val (Y.zh U U) ae (.val (Y.zh U U) ae (.val (Y.qt (m:=fi) az U U bj (aq (d:=0) om)) ae (.val (Y.zb bw U U U U) ae (.nil (.bI [0,1] [] tl (g6 (gl:=ew) (a:=a.getD fi 0) (b:=oc.getD fi 0) om) U (.named U U (.ai U U (.ai U U .nil))) ⟨U,U,trivial⟩ U ae (fun _ h=>by cases h) (fun _ h=>by cases h) ae ae ?_)))))))))))
 rintro r aJ ⟨rfl,rfl⟩ _
 refine ⟨⟨rfl,(by intro ob aY; simp only [List.mem_cons,List.not_mem_nil,or_false] at aY; rcases aY with rfl | rfl <;> rfl),.inl rfl⟩,(.an (.nil ?_))⟩
 have Qv:=hT.len; have Qw:=hT.pl
 refine .dS U (.blind 0 U au (aw.move U U) ae (.blind 1 U au (aw.move U U) ae ?_))
 refine .bX (n:=5) [2,3,4,5,6,7,8,9,10] [11,12,13,14,15] 11 U au (.cn 2 U (Y.zh U U) (.cn 3 U (Y.zh U U) (.cn 4 U (Y.zh U U) (.cn 5 U (Y.qt (m:=fi) az U U bj (aq (d:=0) om)) (.cn 6 U (Y.zb bw U U U U) (.cn 7 U (Y.zh U U) (.cn 8 U (Y.zh U U) (.cn 9 U (Y.qt (m:=fi) az U U bj (aq (d:=0) om)) (.cn 10 U (Y.zb bw U U U U) (.nil (.one 11 U au (.bI [0,1] [] vH (mW (gl:=ew ++ [(⟨5,a.getD fi 0,oc.getD fi 0⟩:Gate)]) (a:=a.getD fi 0) (b:=oc.getD fi 0) aH) U (.named U U (.ai U U (.ai U U .nil))) ⟨U,U,trivial⟩ U ae (fun _ h=>by cases h) (fun _ h=>by cases h) ae ae ?_))))))))))))
 rintro r aJ ⟨rfl,rfl⟩ _
 refine ⟨⟨rfl,(by intro ob aY; simp only [List.mem_cons,List.not_mem_nil,or_false] at aY; rcases aY with rfl | rfl <;> rfl),.inl rfl⟩,(.nil ⟨U,(.bX (n:=3) [12] [13,14,15] 13 U au (.cn 12 U (Y.qh BZ jj U U U) (.nil (.one 13 U au (.buildSlice (([(⟨(ew.length:Int),(((ew ++ [(⟨5,a.getD fi 0,oc.getD fi 0⟩:Gate)]).length:Nat):Int)⟩:bn)]:List bn).map bn.row) ea jj U U U U U (aj (s:=2) (f:=bn.row) (fun _=>U)) U U U ae ?_)))))⟩)⟩
 refine .nil ⟨U,(.one 14 U au (.cL bn.row (qQ ++ ([(⟨(ew.length:Int),(((ew ++ [(⟨5,a.getD fi 0,oc.getD fi 0⟩:Gate)]).length:Nat):Int)⟩:bn)]:List bn)) ea jj U U U U (aV aH) (aM aH) (bs aH) aH aH ae ae ?_))⟩
 refine .nil ⟨U,(.bX (n:=0) [15] [] 0 U au (.cn 15 U (Y.qf U U) (.nil (.done au (.region (.vl (Y.qb U U aH) (.mv ?_)))))))⟩
 refine .nil (⟨fi + 1,(ew ++ [(⟨5,a.getD fi 0,oc.getD fi 0⟩:Gate)]) ++ [(⟨7,a.getD fi 0,oc.getD fi 0⟩:Gate)],qQ ++ ([(⟨(ew.length:Int),(((ew ++ [(⟨5,a.getD fi 0,oc.getD fi 0⟩:Gate)]).length:Nat):Int)⟩:bn)]:List bn),⟨om,hT.step ((ha.bit fi om).ext GB) (Q0.bit fi om) om om⟩,om,Le.mk (.c4 (.cons (aP U om) (.c (.cons (ak U bj) .nil)))) (.cons (ax U ep) (.c (.c .nil)))⟩)
 refine .exit (.seq ?_)
 have Qv:=hT.len; have Qw:=hT.pl; have a0:=(ha.bit 0 om).ext (GB.trans hT.ext); have b0:=(hb.bit 0 om).ext (GB.trans hT.ext); have n0:=(Q0.bit 0 om).ext hT.ext; have e1:=Ext.two (k:=7) hT.ext.dw ae a0 b0; have w1:=a0.xor (u:=t + 30) b0 om om; have e2:=Ext.two (k:=6) e1.dw ae (a0.ext e1) (n0.ext e1); have w2:=(a0.ext e1).or (u:=t + 30) (n0.ext e1) om om; have hq:=(hT.wp.ext (e1.trans e2)).T0 om w2
 refine .px 7 U au (.val (Y.zh U U) ae (.val (Y.zh U U) ae (.val (Y.qt (m:=0) az U U bj (aq (d:=0) om)) ae (.val (Y.zb bw U U U U) ae (.val (Y.zh U U) ae (.val (Y.qt (m:=0) az U U bj (aq (d:=0) om)) ae (.val (Y.zb bw U U U U) ae (.nil (.bI [0,1] [] vH (mW (gl:=ew) (a:=a.getD 0 0) (b:=b.getD 0 0) om) U (.named U U (.ai U U (.ai U U .nil))) ⟨U,U,trivial⟩ U ae (fun _ h=>by cases h) (fun _ h=>by cases h) ae ae ?_)))))))))
 rintro r aJ ⟨rfl,rfl⟩ _
 refine ⟨⟨rfl,(by intro ob aY; simp only [List.mem_cons,List.not_mem_nil,or_false] at aY; rcases aY with rfl | rfl <;> rfl),.inl rfl⟩,(.an ?_)⟩
 refine .nil (.seq (.dS U ?_))
 refine .blind 0 U au (aw.move U U) ae (.bX (n:=4) [1,2,3,4,5,6,7] [8,9,10,11] 8 U au (.cn 1 U (Y.zh U U) (.cn 2 U (Y.zh U U) (.cn 3 U (Y.qt (m:=0) az U U bj (aq (d:=0) om)) (.cn 4 U (Y.zb bw U U U U) (.cn 5 U (Y.zh U U) (.cn 6 U (Y.qt (m:=0) az U U bj (aq (d:=0) om)) (.cn 7 U (Y.zb bw U U U U) (.nil (.one 8 U au (.bI [0,1] [] yj (rO (gl:=ew ++ [(⟨7,a.getD 0 0,b.getD 0 0⟩:Gate)]) (a:=a.getD 0 0) (b:=oc.getD 0 0) aH) U (.named U U (.ai U U (.ai U U .nil))) ⟨U,U,trivial⟩ U ae (fun _ h=>by cases h) (fun _ h=>by cases h) ae ae ?_)))))))))))
 rintro r aJ ⟨rfl,rfl⟩ _
 refine ⟨⟨rfl,(by intro ob aY; simp only [List.mem_cons,List.not_mem_nil,or_false] at aY; rcases aY with rfl | rfl <;> rfl),.inl rfl⟩,(.nil ⟨U,(.bX (n:=1) [9,10] [11] 11 U au (.cn 9 U (Y.qu (m:=0) ea U U bj om) (.cn 10 U (Y.qp lW U U) (.nil (.one 11 U au (.eH ((qQ.set 0 (⟨(((ew ++ [(⟨7,a.getD 0 0,b.getD 0 0⟩:Gate)]).length:Nat):Int),(qQ.getD 0 default).p⟩:bn)).map bn.row) fW U U U U U U U (aI (d:=default) om) (aL U) (cY U) ?_))))))⟩)⟩
 refine .nil ⟨U,(.done au (.seq (.sh (Sh.cO (d:=8) (o:=108) U U (aF aH) ae) (.sh (Sh.bS (d:=8) ((qQ.set 0 (⟨(((ew ++ [(⟨7,a.getD 0 0,b.getD 0 0⟩:Gate)]).length:Nat):Int),(qQ.getD 0 default).p⟩:bn)).map bn.row) U fI (bN.map bn.bx)) (.region (.mv ?_))))))⟩
 refine .mv ?_
 refine .mv ?_
 refine .bI [0,1] [] JM (yK (gl:=(ew ++ [(⟨7,a.getD 0 0,b.getD 0 0⟩:Gate)]) ++ [(⟨6,a.getD 0 0,oc.getD 0 0⟩:Gate)]) (ps:=qQ.set 0 (⟨(((ew ++ [(⟨7,a.getD 0 0,b.getD 0 0⟩:Gate)]).length:Nat):Int),(qQ.getD 0 default).p⟩:bn)) (x:=(ew.length:Int)) e2.dw aH hq (w1.ext e2) ⟨pj,pj⟩) U (.named U U (.ai U U (.ai U U .nil))) ⟨U,U,trivial⟩ U ae (fun _ h=>by cases h) (fun _ h=>by cases h) ae ae ?_
 rintro r aJ ⟨l68,X4,UD,Q3,Q4,UE,rfl,rfl⟩ _
 exact ⟨⟨rfl,(by intro ob aY; simp only [List.mem_cons,List.not_mem_nil,or_false] at aY; rcases aY with rfl | rfl <;> rfl),.inl rfl⟩,(.cj U ae (.nil (.ret ⟨_,_,U,U,_,_,(GB.trans hT.ext).trans ((e1.trans e2).trans UD),by simp only [List.length_append,List.length_singleton] at Q3; omega,(IC (by rw [List.length_set] at Q4; omega) UE).late (by rw [List.length_set,show qQ.length = w by omega]; omega),U,U⟩)))⟩
open Go Go.AW Go.Proofs
theorem pD{c:Int}{gl:List Gate}(hg:Good gl)(tp:gl.length <= 40000000){s:Bool}{w:Nat}{t:Int}{a b:List Int}{A B:List Bool -> BitVec w}(ha:Wd c gl a w A t)(hb:Wd c gl b w B t)(hw:1 <= w /\ w <= 64)(ht:0 <= t):ay Try.prog 131 [.ptr 0 0 0 0,.fz 1 (a.map ag),.fz 1 (b.map ag),.v (.bool s)] [.cells [.aR 1 3 0 gl.length],.rows 3 (gl.map Gate.row)] [0] (fun r o=>∃ (l:List Gate) (x:Int),Ext gl l /\ l.length <= gl.length + 450 /\ Wr c l x (fun ins=>if s then (A ins).slt (B ins) else (A ins).ult (B ins)) (t + 30 + 40 * (dF w:Int)) /\ r = (vi x) /\ o = [.cells [.aR 1 3 0 l.length],.rows 3 (l.map Gate.row)]):=by
 refine ay.of Try.func131 U U U (n:=120) ae (aL U) ?_
 have tk:=ha.len; have yA:=hb.len
 refine .sr (.an (.nil (.sr ?_)))
 refine .an ?_
 refine .sh (Sh.nil (d:=9) 109 2 U ae) (.nil (.seq (.sr (.mv ?_))))
 refine .vl (Y.qy (n:=a.length) az U (congrArg some (List.length_map ..))) (.mv ?_)
 refine .nil (.block (.eg (fun (g7:Nat) (aZ:List Gate) (tq:List bn)=>⟨[(0,.ptr 0 0 0 0),(1,.fz 1 (a.map ag)),(2,.fz 1 (b.map ag)),(3,.v (.bool s)),(9,.aR 109 2 0 tq.length),(21,vi a.length),(22,vi g7)],[(0,.cells [.aR 1 3 0 aZ.length]),(1,.rows 3 (aZ.map Gate.row)),(109,.rows 2 (tq.map bn.row))]⟩) (fun g7 aZ tq=>((g7:Int) <= (a.length:Int)) /\ (vk c gl aZ (fun k ins=>(A ins).getLsbD k) (fun k ins=>(B ins).getLsbD k) s w (t + 30) tq g7)) (fun g7 aZ tq=>((a.length:Int) - (g7:Int)).toNat) 0 gl ([]:List bn) (⟨pj,vk.init hg⟩) (Le.mk (.c4 (.cons (aP U aH) (.c (.cons (ak U bj) .nil)))) (.cons (ax U ep) (.c (.c .nil)))) (fun g7 aZ tq qM=>?_)))
 obtain ⟨Ec,hL⟩:=qM
 refine .sr (.vl (Y.zd U U) (.nil (.seq (.a8 U (fun Kc=>?_) (fun Kc=>?_)))))
 refine .skip (.seq (.block (.sr (.mv ?_))))
 refine .an ?_
 refine .nil (.seq (.kb U au ?_))
 refine .val (Y.zh U U) ae (.val (Y.zh U U) ae (.val (Y.qt (m:=g7) az U U bj (aq (d:=0) om)) ae (.val (Y.zb bw U U U U) ae (.val (Y.zh U U) ae (.val (Y.zh U U) ae (.val (Y.qt (m:=g7) az U U bj (aq (d:=0) om)) ae (.val (Y.zb bw U U U U) ae (.val (Y.qf U U) ae (.val (Y.qf U U) ae (.nil ?_))))))))))
 refine .kP (fun (eT:Int) (gv:Int)=>⟨[(0,.ptr 0 0 0 0),(1,.fz 1 (a.map ag)),(2,.fz 1 (b.map ag)),(3,.v (.bool s)),(9,.aR 109 2 0 tq.length),(11,vi eT),(12,vi gv),(21,vi a.length),(22,vi g7)],[(0,.cells [.aR 1 3 0 aZ.length]),(1,.rows 3 (aZ.map Gate.row)),(109,.rows 2 (tq.map bn.row))]⟩) (fun eT gv=>(eT = if s = true /\ g7 + 1 = a.length then b.getD g7 0 else a.getD g7 0) /\ (gv = if s = true /\ g7 + 1 = a.length then a.getD g7 0 else b.getD g7 0)) ?_ (fun eT gv Jc=>?_)
 refine .sr (.mv ?_)
 refine .mv ?_
 refine .split (d:=34) U (fun Hx=>?_) (fun Hx=>?_)
 refine .gw 34 (Y.zh U U) (.gw 34 (Y.zh U U) (.gw 34 (Y.qy (n:=a.length) az U (congrArg some (List.length_map ..))) (.gw 34 (Y.wc U U om) (.gw 34 (Y.qm U U) (.pk ?_)))))
 refine .nil (.a8 U (fun Md=>?_) (fun Md=>?_))
 refine .region (.mv ?_)
 refine .mv ?_
 refine .an ?_
 refine .an ?_
 refine .nil ⟨b.getD g7 0,a.getD g7 0,by grind,Le.mk (.c4 (.c (.cons (ak U bj) (.cons (ak U bj) (.c (.c .nil)))))) (.c2 (.c .nil))⟩
 refine .skip ⟨a.getD g7 0,b.getD g7 0,by grind,Le.mk (.c4 (.c (.cons (ak U bj) (.cons (ak U bj) (.c (.c .nil)))))) (.c2 (.c .nil))⟩
 refine .gz 34 (.gz 34 (.gz 34 (.gz 34 (.gz 34 (.pk ?_)))))
 exact .nil (.dA U (.skip ⟨a.getD g7 0,b.getD g7 0,by grind,Le.mk (.c4 (.c (.cons (ak U bj) (.cons (ak U bj) (.c (.c .nil)))))) (.c2 (.c .nil))⟩))
 refine .seq ?_
 have Zt:=hL.len; have Zu:=hL.pl; have Ae:=FO (s:=s) (i:=g7) ha hb om (Jc.1.trans (by rw [tk])) (Jc.2.trans (by rw [tk]))
 refine .region (.mv ?_)
 refine .mv ?_
 refine .mv ?_
 refine .bI [0,1] [] uv (gT (gl:=aZ) (a:=eT) om) U (.named U U (.ai U U .nil)) ⟨U,U,trivial⟩ U ae (fun _ h=>by cases h) (fun _ h=>by cases h) ae ae ?_
 rintro r aJ ⟨rfl,rfl⟩ _
 refine ⟨⟨rfl,(by intro ob aY; simp only [List.mem_cons,List.not_mem_nil,or_false] at aY; rcases aY with rfl | rfl <;> rfl),.inl rfl⟩,(.mv ?_)⟩
 refine .bI [0,1] [] tl (g6 (gl:=aZ ++ [(⟨4,eT,0⟩:Gate)]) (a:=(aZ.length:Int)) (b:=gv) aH) U (.named U U (.ai U U (.ai U U .nil))) ⟨U,U,trivial⟩ U ae (fun _ h=>by cases h) (fun _ h=>by cases h) ae ae ?_
 rintro r aJ ⟨rfl,rfl⟩ _
 refine ⟨⟨rfl,(by intro ob aY; simp only [List.mem_cons,List.not_mem_nil,or_false] at aY; rcases aY with rfl | rfl <;> rfl),.inl rfl⟩,(.an (.nil (.region ?_)))⟩
 refine .mv ?_
 refine .mv ?_
 refine .mv ?_
 refine .mv ?_
 refine .mv ?_
 refine .mv ?_
 refine .bI [0,1] [] vH (mW (gl:=(aZ ++ [(⟨4,eT,0⟩:Gate)]) ++ [(⟨5,(aZ.length:Int),gv⟩:Gate)]) (a:=eT) (b:=gv) aH) U (.named U U (.ai U U (.ai U U .nil))) ⟨U,U,trivial⟩ U ae (fun _ h=>by cases h) (fun _ h=>by cases h) ae ae ?_
 rintro r aJ ⟨rfl,rfl⟩ _
 refine ⟨⟨rfl,(by intro ob aY; simp only [List.mem_cons,List.not_mem_nil,or_false] at aY; rcases aY with rfl | rfl <;> rfl),.inl rfl⟩,(.bI [0,1] [] uv (gT (gl:=((aZ ++ [(⟨4,eT,0⟩:Gate)]) ++ [(⟨5,(aZ.length:Int),gv⟩:Gate)]) ++ [(⟨7,eT,gv⟩:Gate)]) (a:=((((aZ ++ [(⟨4,eT,0⟩:Gate)]) ++ [(⟨5,(aZ.length:Int),gv⟩:Gate)]).length:Nat):Int)) aH) U (.named U U (.ai U U .nil)) ⟨U,U,trivial⟩ U ae (fun _ h=>by cases h) (fun _ h=>by cases h) ae ae ?_)⟩
 rintro r aJ ⟨rfl,rfl⟩ _
 refine ⟨⟨rfl,(by intro ob aY; simp only [List.mem_cons,List.not_mem_nil,or_false] at aY; rcases aY with rfl | rfl <;> rfl),.inl rfl⟩,(.vl (Y.qh BZ jj U U U) (.buildSlice (([(⟨(((aZ ++ [(⟨4,eT,0⟩:Gate)]).length:Nat):Int),(((((aZ ++ [(⟨4,eT,0⟩:Gate)]) ++ [(⟨5,(aZ.length:Int),gv⟩:Gate)]) ++ [(⟨7,eT,gv⟩:Gate)]).length:Nat):Int)⟩:bn)]:List bn).map bn.row) ea jj U U U U U (aj (s:=2) (f:=bn.row) (fun _=>U)) U U U ae ?_))⟩
 refine .cL bn.row (tq ++ ([(⟨(((aZ ++ [(⟨4,eT,0⟩:Gate)]).length:Nat):Int),(((((aZ ++ [(⟨4,eT,0⟩:Gate)]) ++ [(⟨5,(aZ.length:Int),gv⟩:Gate)]) ++ [(⟨7,eT,gv⟩:Gate)]).length:Nat):Int)⟩:bn)]:List bn)) ea jj U U U U (aV aH) (aM aH) (bs aH) aH aH ae ae ?_
 refine .an (.nil (.region ?_))
 refine .vl (Y.qb U U aH) (.mv ?_)
 refine .nil (⟨g7 + 1,(((aZ ++ [(⟨4,eT,0⟩:Gate)]) ++ [(⟨5,(aZ.length:Int),gv⟩:Gate)]) ++ [(⟨7,eT,gv⟩:Gate)]) ++ [(⟨4,((((aZ ++ [(⟨4,eT,0⟩:Gate)]) ++ [(⟨5,(aZ.length:Int),gv⟩:Gate)]).length:Nat):Int),0⟩:Gate)],tq ++ ([(⟨(((aZ ++ [(⟨4,eT,0⟩:Gate)]).length:Nat):Int),(((((aZ ++ [(⟨4,eT,0⟩:Gate)]) ++ [(⟨5,(aZ.length:Int),gv⟩:Gate)]) ++ [(⟨7,eT,gv⟩:Gate)]).length:Nat):Int)⟩:bn)]:List bn),⟨om,hL.step Ae.1 Ae.2 (Int.le_refl _) (fun ins=>⟨U,U⟩)⟩,om,Le.mk (.c4 (.cons (aP U om) (.c (.cons (ak U bj) .nil)))) (.cons (ax U ep) (.c (.c .nil)))⟩)
 refine .exit (.seq (.block (.sh (Sh.cO (d:=9) (o:=109) U U (aF om) ae) (.sh (Sh.bS (d:=9) (tq.map bn.row) U fI (bN.map bn.bx)) ?_))))
 have Zt:=hL.len; have Zu:=hL.pl
 refine .fH (fun (cx:List bn) (nL:List Gate)=>⟨[(0,.ptr 0 0 0 0),(9,.fz 2 (cx.map bn.row))],[(0,.cells [.aR 1 3 0 nL.length]),(1,.rows 3 (nL.map Gate.row))]⟩) (fun cx nL=>(Cj c aZ (fun ins=>if s then (A ins).slt (B ins) else (A ins).ult (B ins)) w (t + 30) nL cx)) (fun cx nL=>cx.length) tq aZ (vk.tree (g0:=gl) om ((show g7 = w by omega) ▸ hL)) (Le.mk (.c (.c .nil)) (.cons (ax U ep) (.c .nil))) (fun cx nL AP=>?_)
 have hI:=AP
 refine .seq (.sr (.mv ?_))
 refine .vl (Y.qy (n:=cx.length) ea U (congrArg some (List.length_map ..))) (.vl (Y.qr U U) (.nil (.a8 U (fun RM=>?_) (fun RM=>?_))))
 refine .skip (.block (.seq ?_))
 have Uy:=hI.len; have UF:=hI.lo; have hIe:=hI.ext.len; have hex:∃ G P t,Wp c nL cx G P t:=(by obtain ⟨G1,P1,t1,h1,_⟩:=hI.ex; exact ⟨G1,P1,t1,h1⟩)
 refine .region (.an ?_)
 refine .sh (Sh.nil (d:=14) 114 2 U ae) (.nil (.seq (.sr (.an (.nil (.block ?_))))))
 refine .eg (fun (cy:Nat) (cW:List Gate) (eO:List bn)=>⟨[(0,.ptr 0 0 0 0),(9,.fz 2 (cx.map bn.row)),(14,.aR 114 2 0 eO.length),(15,vi cy)],[(0,.cells [.aR 1 3 0 cW.length]),(1,.rows 3 (cW.map Gate.row)),(114,.rows 2 (eO.map bn.row))]⟩) (fun cy cW eO=>(IA c nL cx cW eO cy)) (fun cy cW eO=>cx.length - cy) 0 nL ([]:List bn) (IA.init hI.ext.dw) (Le.mk (.c2 (.cons (aP U aH) (.cons (ak U bj) .nil))) (.cons (ax U ep) (.c (.c .nil)))) (fun cy cW eO GC=>?_)
 have hJ:=GC
 refine .seq (.seq ?_)
 have Ut:=hJ.hi; have o5:=hJ.len; have Uu:=hJ.nl; have Uv:=hJ.even
 refine .region (.mv ?_)
 refine .vl (Y.qb U U aH) (.mv ?_)
 refine .vl (Y.qy (n:=cx.length) ea U (congrArg some (List.length_map ..))) (.vl (Y.zd U U) (.nil (.a8 U (fun Kb=>?_) (fun Kb=>?_))))
 refine .skip (.seq (.block (.seq (.dQ (⟨[(0,.ptr 0 0 0 0),(9,.fz 2 (cx.map bn.row)),(14,.aR 114 2 0 eO.length),(15,.v (.int .i64 (cy:Int))),(16,.ptr 116 0 0 0),(17,.ptr 117 0 0 0)],[(0,.cells [.aR 1 3 0 cW.length]),(1,.rows 3 (cW.map Gate.row)),(114,.rows 2 (eO.map bn.row)),(116,.cells [.v (.int .i64 ((cx.getD cy default).g)),.v (.int .i64 ((cx.getD cy default).p))]),(117,.cells [.v (.int .i64 ((cx.getD (cy + 1) default).g)),.v (.int .i64 ((cx.getD (cy + 1) default).p))])]⟩) U ?_ ?_))))
 refine .blind 0 U au (aw.move U U) ae (.blind 1 U au (aw.move U U) ae ?_)
 refine .blind 2 U au (aw.j6 (m:=cy) ea U U bj (aq (d:=default) om)) ae ?_
 refine .fu 3 U au Fq U U U (aL U) U U ae (.blind 4 U au (aw.move U U) ae (.blind 5 U au (aw.move U U) ae ?_))
 refine .blind 6 U au (aw.It U U om) ae (.blind 7 U au (aw.j6 (m:=cy + 1) ea U U bj (aq (d:=default) om)) ae ?_)
 refine .fu 8 U au Fq U U U (aL U) U U ae (.yo ?_)
 refine .two 9 10 U U au ?_ ?_
 refine .alloc 116 jj U U ae ?_
 refine .nil ⟨U,(.one 10 U au (.alloc 117 jj U U ae ?_))⟩
 refine .nil ⟨U,(.one 11 U au (.ao Ca U U U U U U (aL U) U ?_))⟩
 refine .nil ⟨U,(.one 12 U au (.ao Ca U U U U U U (aL U) U ?_))⟩
 exact .nil ⟨U,(.done au (Le.mk (.c4 (.c (.c .nil))) (.c4 (.c .nil))))⟩
 refine .alloc 117 jj U U ae ?_
 refine .nil ⟨U,(.one 9 U au (.alloc 116 jj U U ae ?_))⟩
 refine .nil ⟨U,(.one 11 U au (.ao Ca U U U U U U (aL U) U ?_))⟩
 refine .nil ⟨U,(.one 12 U au (.ao Ca U U U U U U (aL U) U ?_))⟩
 exact .nil ⟨U,(.done au (Le.mk (.c4 (.c (.c .nil))) (.c4 (.c .nil))))⟩
 refine .sr (.mv ?_)
 refine .fa kU ?_
 refine .ld bw ?_
 refine .fa lW ?_
 refine .ld bw ?_
 refine .bI [0,1] [] tl (g6 (gl:=cW) (a:=(cx.getD (cy + 1) default).p) (b:=(cx.getD cy default).g) om) U (.named U U (.ai U U (.ai U U .nil))) ⟨U,U,trivial⟩ U ae (fun _ h=>by cases h) (fun _ h=>by cases h) ae ae ?_
 rintro r aJ ⟨rfl,rfl⟩ _
 refine ⟨⟨rfl,(by intro ob aY; simp only [List.mem_cons,List.not_mem_nil,or_false] at aY; rcases aY with rfl | rfl <;> rfl),.inl rfl⟩,(.an (.nil (.sr ?_)))⟩
 refine .mv ?_
 refine .fa lW ?_
 refine .ld bw ?_
 refine .mv ?_
 refine .bI [0,1] [] yj (rO (gl:=cW ++ [(⟨5,(cx.getD (cy + 1) default).p,(cx.getD cy default).g⟩:Gate)]) (a:=(cx.getD (cy + 1) default).g) (b:=(cW.length:Int)) aH) U (.named U U (.ai U U (.ai U U .nil))) ⟨U,U,trivial⟩ U ae (fun _ h=>by cases h) (fun _ h=>by cases h) ae ae ?_
 rintro r aJ ⟨rfl,rfl⟩ _
 refine ⟨⟨rfl,(by intro ob aY; simp only [List.mem_cons,List.not_mem_nil,or_false] at aY; rcases aY with rfl | rfl <;> rfl),.inl rfl⟩,(.an (.nil (.region ?_)))⟩
 refine .mv ?_
 refine .mv ?_
 refine .mv ?_
 refine .fa kU ?_
 refine .ld bw ?_
 refine .fa kU ?_
 refine .ld bw ?_
 refine .bI [0,1] [] tl (g6 (gl:=(cW ++ [(⟨5,(cx.getD (cy + 1) default).p,(cx.getD cy default).g⟩:Gate)]) ++ [(⟨6,(cx.getD (cy + 1) default).g,(cW.length:Int)⟩:Gate)]) (a:=(cx.getD (cy + 1) default).p) (b:=(cx.getD cy default).p) aH) U (.named U U (.ai U U (.ai U U .nil))) ⟨U,U,trivial⟩ U ae (fun _ h=>by cases h) (fun _ h=>by cases h) ae ae ?_
 rintro r aJ ⟨rfl,rfl⟩ _
 refine ⟨⟨rfl,(by intro ob aY; simp only [List.mem_cons,List.not_mem_nil,or_false] at aY; rcases aY with rfl | rfl <;> rfl),.inl rfl⟩,(.vl (Y.qh BZ jj U U U) (.buildSlice (([(⟨(((cW ++ [(⟨5,(cx.getD (cy + 1) default).p,(cx.getD cy default).g⟩:Gate)]).length:Nat):Int),((((cW ++ [(⟨5,(cx.getD (cy + 1) default).p,(cx.getD cy default).g⟩:Gate)]) ++ [(⟨6,(cx.getD (cy + 1) default).g,(cW.length:Int)⟩:Gate)]).length:Nat):Int)⟩:bn)]:List bn).map bn.row) ea jj U U U U U (aj (s:=2) (f:=bn.row) (fun _=>U)) U U U ae ?_))⟩
 refine .cL bn.row (eO ++ ([(⟨(((cW ++ [(⟨5,(cx.getD (cy + 1) default).p,(cx.getD cy default).g⟩:Gate)]).length:Nat):Int),((((cW ++ [(⟨5,(cx.getD (cy + 1) default).p,(cx.getD cy default).g⟩:Gate)]) ++ [(⟨6,(cx.getD (cy + 1) default).g,(cW.length:Int)⟩:Gate)]).length:Nat):Int)⟩:bn)]:List bn)) ea jj U U U U (aV aH) (aM aH) (bs aH) aH aH ae ae ?_
 refine .an (.nil (.region ?_))
 refine .mv ?_
 refine .vl (Y.qb U U aH) (.an ?_)
 refine .nil (⟨cy + 2,((cW ++ [(⟨5,(cx.getD (cy + 1) default).p,(cx.getD cy default).g⟩:Gate)]) ++ [(⟨6,(cx.getD (cy + 1) default).g,(cW.length:Int)⟩:Gate)]) ++ [(⟨5,(cx.getD (cy + 1) default).p,(cx.getD cy default).p⟩:Gate)],eO ++ ([(⟨(((cW ++ [(⟨5,(cx.getD (cy + 1) default).p,(cx.getD cy default).g⟩:Gate)]).length:Nat):Int),((((cW ++ [(⟨5,(cx.getD (cy + 1) default).p,(cx.getD cy default).g⟩:Gate)]) ++ [(⟨6,(cx.getD (cy + 1) default).g,(cW.length:Int)⟩:Gate)]).length:Nat):Int)⟩:bn)]:List bn),hJ.step om hex,om,Le.mk (.c2 (.cons (aP U om) (.cons (ak U bj) .nil))) (.cons (ax U ep) (.c (.c .nil)))⟩)
 refine .exit (.fS (fun (gU:List bn)=>⟨[(0,.ptr 0 0 0 0),(14,.aR 114 2 0 gU.length)],[(0,.cells [.aR 1 3 0 cW.length]),(1,.rows 3 (cW.map Gate.row)),(114,.rows 2 (gU.map bn.row))]⟩) (fun gU=>Cj c aZ (fun ins=>if s then (A ins).slt (B ins) else (A ins).ult (B ins)) w (t + 30) cW gU /\ gU.length < cx.length) ?_ (fun gU GD=>?_))
 refine .seq ?_
 have Ut:=hJ.hi; have o5:=hJ.len; have Uu:=hJ.nl; have Uv:=hJ.even
 refine .region (.mv ?_)
 refine .vl (Y.qy (n:=cx.length) ea U (congrArg some (List.length_map ..))) (.vl (Y.zt U U om) (.vl (Y.qm U U) (.nil (.a8 U (fun UG=>?_) (fun UG=>?_)))))
 refine .region (.mv ?_)
 refine .mv ?_
 refine .mv ?_
 refine .vl (Y.qy (n:=cx.length) ea U (congrArg some (List.length_map ..))) (.vl (Y.wc U U aH) (.vl (Y.qt (m:=((cx.length:Int) - 1).toNat) ea U U om (aq (d:=default) om)) (.vl (Y.zc Fq U U (aL U) U U) (.buildSlice (([(cx.getD (((cx.length:Int) - 1).toNat) default)]:List bn).map bn.row) ea jj U U U U U (aj (s:=2) (f:=bn.row) (fun _=>U)) U U U ae ?_))))
 refine .cL bn.row (eO ++ ([(cx.getD (((cx.length:Int) - 1).toNat) default)]:List bn)) ea jj U U U U (aV aH) (aM aH) (bs aH) aH aH ae ae ?_
 refine .an ?_
 refine .nil (⟨eO ++ ([(cx.getD (((cx.length:Int) - 1).toNat) default)]:List bn),by have hx:=hI.PQ hJ om om om; rw [show cx.length - 1 = ((cx.length:Int) - 1).toNat by omega] at hx; exact ⟨hx,by rw [List.length_append,List.length_singleton]; omega⟩,Le.mk (.c (.cons (aP U om) .nil)) (.c2 (.c .nil))⟩)
 refine .skip (⟨eO,⟨hI.pass hJ om om om,om⟩,Le.mk (.c (.cons (aP U om) .nil)) (.c2 (.c .nil))⟩)
 refine .sh (Sh.cO (d:=14) (o:=114) U U (aF om) ae) (.sh (Sh.bS (d:=14) (gU.map bn.row) U fI (bN.map bn.bx)) (.region (.mv ?_)))
 refine .an ?_
 refine .nil ⟨gU,cW,GD.1,by have:=GD.2; omega,Le.mk (.c (.c .nil)) (.cons (ax U ep) (.c .nil))⟩
 refine .exit (.seq ?_)
 have UF:=hI.lo; have Uy:=hI.len
 refine .region (.mv ?_)
 refine .vl (Y.qt (m:=0) ea U U bj (aq (d:=default) om)) (.fa lW ?_)
 refine .ld bw ?_
 refine .an (.nil (.ret ?_))
 exact ⟨_,_,U,U,_,_,hL.ext.trans hI.ext,by have:=hL.len; omega,hI.done om,U,U⟩
open Go Go.AW Go.Proofs
def Port(k:Int):Prop:=k = 5 \/ k = 6 \/ k = 7
instance (w:Int):Decidable (Port w):=by unfold Port; infer_instance
def Ba(c:Cell):List (Int × Int):=if c.kind = 4 then [(c.args.getD 0 0,100),(c.args.getD 1 0,60)] else []
def uP(c:Cell):List (Int × Int):=if Port c.kind then c.args.map (fun w=>(w,20)) else []
def tr(n:ab)(k:Nat):List (Int × Int):=(n.cells.take k).flatMap Ba
def lD(n:ab)(k:Nat):List (Int × Int):=(n.cells.take k).flatMap uP
def lE(n:ab)(k:Nat):Bool:=(n.cells.take k).any (fun c=>decide (c.kind = 4))
def ij(n:ab)(k:Nat):Bool:=(n.cells.take k).any (fun c=>decide (Port c.kind))
def xb(l:List Int)(k:Nat):List (Int × Int):=((l.take k).filter (fun w=>decide (w ≥ 0))).map (fun w=>(w,0))
abbrev rest(n:ab):List Int:=(([[n.done],n.bF,n.ba,n.data]:List (List Int)).flatten)
def oz(n:ab)(b:Bool)(v:Int):List (Int × Int):=if b then [(n.freeze,v)] else []
def vp(n:ab):List (Int × Int):=lD n n.cells.length ++ oz n (ij n n.cells.length) 20 ++ xb (rest n) (rest n).length
def lF(n:ab):List (Int × Int):=tr n n.cells.length ++ oz n (lE n n.cells.length) 100 ++ vp n
section
variable {n:ab} {k:Nat}
theorem vV(hk:k < n.cells.length):tr n (k + 1) = tr n k ++ Ba (n.cells.getD k default):=by
 unfold tr; rw [take_one (d:=(default:Cell)) hk,List.flatMap_append]; simp
theorem uQ(hk:k < n.cells.length):lD n (k + 1) = lD n k ++ uP (n.cells.getD k default):=by
 unfold lD; rw [take_one (d:=(default:Cell)) hk,List.flatMap_append]; simp
theorem tc(hk:k < n.cells.length):lE n (k + 1) = (lE n k || decide ((n.cells.getD k default).kind = 4)):=by
 unfold lE; rw [take_one (d:=(default:Cell)) hk,List.any_append]; simp
theorem rP(hk:k < n.cells.length):ij n (k + 1) = (ij n k || decide (Port (n.cells.getD k default).kind)):=by
 unfold ij; rw [take_one (d:=(default:Cell)) hk,List.any_append]; simp
theorem pE{l:List Int}(hk:k < l.length):xb l (k + 1) = xb l k ++ if 0 <= l.getD k 0 then [(l.getD k 0,0)] else []:=by
 unfold xb
 rw [take_one (d:=(0:Int)) hk,List.filter_append,List.map_append]
 congr 1
 by_cases h:0 <= l.getD k 0
 ·rw [if_pos h,List.filter_cons,if_pos (decide_eq_true h)]; rfl
 ·rw [if_neg h,List.filter_cons,if_neg (by simpa using h)]; rfl
end
theorem yL{n:ab}{w:Int}:w ∈ rest n ↔ w = n.done \/ w ∈ n.bF \/ w ∈ n.ba \/ w ∈ n.data:=by simp [rest]
theorem Jf{n:ab}(hf:bg n){w:Int}(h:w ∈ n.data)(h0:0 <= w):In w n.aa.length:=(Dk.p6 hf ⟨.inr (.inr (.inr (.inr (.inl ⟨h,h0⟩))))⟩)
theorem xc{n:ab}(hf:bg n){e:Int × Int}(h:e ∈ lF n):In e.1 n.aa.length /\ 0 <= e.2 /\ e.2 <= 100:=by
 unfold lF vp at h
 simp only [List.mem_append] at h
 rcases h with (h | h) | (h | h) | h
 ·obtain ⟨c,hc,he⟩:=List.mem_flatMap.1 h
  rw [List.take_length] at hc
  unfold Ba at he
  split at he
  ·rename_i h4
   have kC:=hf.cell hc
   have h2:c.args.length = 2:=by
    have:=kC.2.1
    unfold Shaped at this
    omega
   rcases List.mem_cons.1 he with rfl | he
   ·exact ⟨kC.1 _ (bQ om),by simp,by simp⟩
   ·rw [List.mem_singleton.1 he]; exact ⟨kC.1 _ (bQ om),by simp,by simp⟩
  ·cases he
 ·unfold oz at h
  split at h
  ·rw [List.mem_singleton.1 h]; exact ⟨hf.freeze,by simp,by simp⟩
  ·cases h
 ·obtain ⟨c,hc,he⟩:=List.mem_flatMap.1 h
  rw [List.take_length] at hc
  unfold uP at he
  split at he
  ·obtain ⟨w,hw,rfl⟩:=List.mem_map.1 he
   exact ⟨(hf.cell hc).1 w hw,by simp,by simp⟩
  ·cases he
 ·unfold oz at h
  split at h
  ·rw [List.mem_singleton.1 h]; exact ⟨hf.freeze,by simp,by simp⟩
  ·cases h
 ·unfold xb at h
  obtain ⟨w,hw,rfl⟩:=List.mem_map.1 h
  obtain ⟨hw,h0⟩:=List.mem_filter.1 hw
  rw [List.take_length,yL] at hw
  have h0:0 <= w:=of_decide_eq_true h0
  refine ⟨?_,by simp,by simp⟩
  rcases hw with rfl | hw | hw | hw
  ·exact hf.done
  ·exact hf.bF w hw
  ·exact (Dk.p6 hf ⟨.inl hw⟩)
  ·exact Jf hf hw h0
theorem GF{n:ab}(hf:bg n):(n.done,0) ∈ lF n:=by
 have:=hf.done
 unfold In at this
 unfold lF vp
 refine List.mem_append.2 (.inr (List.mem_append.2 (.inr ?_)))
 unfold xb
 rw [List.take_length]
 exact List.mem_map.2 ⟨n.done,List.mem_filter.2 ⟨yL.2 (.inl rfl),decide_eq_true this.1⟩,rfl⟩
def Jg(at_:List Int)(s:Int × Int)(e:Int × Int):Int × Int:=if s.2 < 0 \/ at_.getD e.1.toNat 0 + e.2 > s.1 then (at_.getD e.1.toNat 0 + e.2,e.1) else s
def gV(at_:List Int)(L:List (Int × Int)):Int × Int:=L.foldl (Jg at_) (0,-1)
structure sD(at_:List Int)(L:List (Int × Int))(s:Int × Int):Prop where
 none:L = [] -> s = (0,-1)
 some:L ≠ [] -> ∃ e ∈ L,s = (at_.getD e.1.toNat 0 + e.2,e.1)
 max:∀ e ∈ L,at_.getD e.1.toNat 0 + e.2 <= s.1
theorem qR{at_:List Int}{L:List (Int × Int)}{e:Int × Int}:gV at_ (L ++ [e]) = Jg at_ (gV at_ L) e:=by simp [gV]
theorem sD.step{at_:List Int}{L:List (Int × Int)}{s e:Int × Int}(h:sD at_ L s)(h0:∀ e ∈ L,0 <= e.1):sD at_ (L ++ [e]) (Jg at_ s e) where
 none:=fun h=>by simp at h
 some:=fun _=>by
  unfold Jg
  by_cases hc:s.2 < 0 \/ at_.getD e.1.toNat 0 + e.2 > s.1
  ·rw [if_pos hc]; exact ⟨e,by simp,rfl⟩
  ·rw [if_neg hc]
   by_cases hL:L = []
   ·rw [h.none hL] at hc; simp at hc
   ·obtain ⟨x,hx,hs⟩:=h.some hL
    exact ⟨x,List.mem_append.2 (.inl hx),hs⟩
 max:=fun x hx=>by
  unfold Jg
  by_cases hc:s.2 < 0 \/ at_.getD e.1.toNat 0 + e.2 > s.1
  ·rw [if_pos hc]
   rcases List.mem_append.1 hx with hx | hx
   ·have h1:=h.max x hx
    rcases hc with hc | hc
    ·exfalso
     obtain ⟨y,hy,hs⟩:=h.some (List.ne_nil_of_mem hx)
     rw [hs] at hc
     have:=h0 y hy
     simp only at hc; omega
    ·show _ <= at_.getD e.1.toNat 0 + e.2; omega
   ·rw [List.mem_singleton.1 hx]; exact Int.le_refl _
  ·rw [if_neg hc]
   rcases List.mem_append.1 hx with hx | hx
   ·exact h.max x hx
   ·rw [List.mem_singleton.1 hx]; omega
theorem xd{at_:List Int}{L:List (Int × Int)}(h:∀ e ∈ L,0 <= e.1):sD at_ L (gV at_ L):=by
 have:∀ (M L:List (Int × Int)) (s:Int × Int),(∀ e ∈ L ++ M,0 <= e.1) -> sD at_ L s -> sD at_ (L ++ M) (M.foldl (Jg at_) s):=by
  intro M
  induction M with
  | nil=>intro L s _ h; rw [List.append_nil]; exact h
  | cons e r ih =>
   intro L s h0 h
   rw [List.foldl_cons,show L ++ e :: r = (L ++ [e]) ++ r by simp]
   exact ih _ _ (by simpa using h0) (h.step (fun x hx=>h0 x (List.mem_append.2 (.inl hx))))
 have h1:=this L [] (0,-1) (by simpa using h) ⟨fun _=>rfl,fun h=>absurd rfl h,fun e he=>by cases he⟩
 unfold gV; simpa using h1
open Go Go.AW Go.Proofs
section
variable {n:ab} {i k m:Nat} {ix X Z:List (Int × Int)} {b:Bool}
theorem GG(hf:bg n)(hr:n.bF.length <= 1000)(hs:n.streams.length <= 1000):(([([n.done]:List Int),n.bF,n.ba,n.data]:List (List Int)).flatten).length <= 4000:=by
 have h1:=hf.dM; have h2:=hf.gM
 simp; omega
theorem DG{c:Cell}(hc:Port c.kind)(hk:k < c.args.length):(c.args.getD k 0,20) ∈ uP c:=by
 unfold uP; rw [if_pos hc]
 exact List.mem_map.2 ⟨_,bQ hk,rfl⟩
theorem uR(hi:i < n.cells.length)(hc:Port (n.cells.getD i default).kind)(hk:k < (n.cells.getD i default).args.length):((n.cells.getD i default).args.getD k 0,20) ∈ vp n:=by
 refine List.mem_append.2 (.inl (List.mem_append.2 (.inl (List.mem_flatMap.2 ⟨n.cells.getD i default,?_,DG hc hk⟩))))
 rw [List.take_length]; exact getD_in hi
theorem xe(h:ij n n.cells.length = true):(n.freeze,20) ∈ vp n:=by
 refine List.mem_append.2 (.inl (List.mem_append.2 (.inr ?_)))
 unfold oz; rw [if_pos h]; simp
theorem xf(hk:k < (([([n.done]:List Int),n.bF,n.ba,n.data]:List (List Int)).flatten).length)(h0:0 <= (([([n.done]:List Int),n.bF,n.ba,n.data]:List (List Int)).flatten).getD k 0):((([([n.done]:List Int),n.bF,n.ba,n.data]:List (List Int)).flatten).getD k 0,0) ∈ vp n:=by
 refine List.mem_append.2 (.inr (List.mem_map.2 ⟨_,List.mem_filter.2 ⟨?_,decide_eq_true h0⟩,rfl⟩))
 rw [List.take_length]; exact bQ hk
theorem C8(hx:X = ix ++ lD n k)(hp:b = ij n k)(hk:k < n.cells.length)(h:¬ Port (n.cells.getD k default).kind):X = ix ++ lD n (k + 1) /\ b = ij n (k + 1):=by
 rw [uQ hk,rP hk,decide_eq_false h,Bool.or_false,uP,if_neg h,List.append_nil]
 exact ⟨hx,hp⟩
theorem yM(hx:Z = (ix ++ lD n k) ++ ((n.cells.getD k default).args.take m).map (fun w=>(w,(20:Int))))(hk:k < n.cells.length)(hm:m = (n.cells.getD k default).args.length)(h:Port (n.cells.getD k default).kind):Z = ix ++ lD n (k + 1) /\ true = ij n (k + 1):=by
 rw [uQ hk,rP hk,decide_eq_true h,Bool.or_true,uP,if_pos h]
 rw [hm,List.take_length] at hx
 exact ⟨by rw [hx,List.append_assoc],rfl⟩
theorem uS(hi:i < n.cells.length)(h:(n.cells.getD i default).kind = 4):((n.cells.getD i default).args.getD 0 0,100) ∈ lF n:=by
 refine List.mem_append.2 (.inl (List.mem_append.2 (.inl (List.mem_flatMap.2 ⟨n.cells.getD i default,?_,?_⟩))))
 ·rw [List.take_length]; exact getD_in hi
 ·unfold Ba; rw [if_pos h]; simp
theorem uT(hi:i < n.cells.length)(h:(n.cells.getD i default).kind = 4):((n.cells.getD i default).args.getD 1 0,60) ∈ lF n:=by
 refine List.mem_append.2 (.inl (List.mem_append.2 (.inl (List.mem_flatMap.2 ⟨n.cells.getD i default,?_,?_⟩))))
 ·rw [List.take_length]; exact getD_in hi
 ·unfold Ba; rw [if_pos h]; simp
theorem xg(h:lE n n.cells.length = true):(n.freeze,100) ∈ lF n:=by
 refine List.mem_append.2 (.inl (List.mem_append.2 (.inr ?_)))
 unfold oz; rw [if_pos h]; simp
theorem Jh{e:Int × Int}(h:e ∈ vp n):e ∈ lF n:=List.mem_append.2 (.inr h)
theorem GH(hx:X = ix ++ tr n k)(hp:b = lE n k)(hk:k < n.cells.length)(h:¬ (n.cells.getD k default).kind = 4):X = ix ++ tr n (k + 1) /\ b = lE n (k + 1):=by
 rw [vV hk,tc hk,decide_eq_false h,Bool.or_false,Ba,if_neg h,List.append_nil]
 exact ⟨hx,hp⟩
theorem C9(hx:X = ix ++ tr n k)(hk:k < n.cells.length)(h:(n.cells.getD k default).kind = 4):(X ++ [((n.cells.getD k default).args.getD 0 0,100)]) ++ [((n.cells.getD k default).args.getD 1 0,60)] = ix ++ tr n (k + 1) /\ true = lE n (k + 1):=by
 rw [vV hk,tc hk,decide_eq_true h,Bool.or_true,Ba,if_pos h]
 exact ⟨by rw [hx]; simp,rfl⟩
theorem Ji(hf:bg n)(hi:i < n.cells.length)(h:(n.cells.getD i default).kind = 4):(n.cells.getD i default).args.length = 2:=by
 have:=(hf.cells i hi).2.1
 unfold Shaped at this
 omega
end
open Go Go.AW Go.Proofs
def GI:ByteArray:=⟨(([0,1,2,2,3,3,3,3,4,4,4,4,4,4,4,4,5,5,5,5,5,5,5,5,5,5,5,5,5,5,5,5,6,6,6,6,6,6,6,6,6,6,6,6,6,6,6,6,6,6,6,6,6,6,6,6,6,6,6,6,6,6,6,6].append [7,7,7,7,7,7,7,7,7,7,7,7,7,7,7,7,7,7,7,7,7,7,7,7,7,7,7,7,7,7,7,7,7,7,7,7,7,7,7,7,7,7,7,7,7,7,7,7,7,7,7,7,7,7,7,7,7,7,7,7,7,7,7,7]).append ([8,8,8,8,8,8,8,8,8,8,8,8,8,8,8,8,8,8,8,8,8,8,8,8,8,8,8,8,8,8,8,8,8,8,8,8,8,8,8,8,8,8,8,8,8,8,8,8,8,8,8,8,8,8,8,8,8,8,8,8,8,8,8,8].append [8,8,8,8,8,8,8,8,8,8,8,8,8,8,8,8,8,8,8,8,8,8,8,8,8,8,8,8,8,8,8,8,8,8,8,8,8,8,8,8,8,8,8,8,8,8,8,8,8,8,8,8,8,8,8,8,8,8,8,8,8,8,8,8])).toArray⟩
theorem GJ:(List.range 256).all (fun m=>bA GI m == dF (m + 1)) = true:=by kernel_rfl
theorem DH:GI.size = 256:=by kernel_rfl
theorem Jj{m:Nat}(h:m < 256):bA GI m = dF (m + 1):=by
 have:=List.all_eq_true.1 GJ m (List.mem_range.2 h)
 simpa using this
theorem Bb{n:Nat}(h:n <= 256):dF n <= 8:=nI om
theorem CA{x:Int}{k:Nat}(h0:1 <= x)(h1:x <= 64)(hk:k <= 8):0 <= 3 * x * (k:Int) /\ 3 * x * (k:Int) <= 1536 :=
 ⟨Int.mul_nonneg om om,Int.le_trans (Int.mul_le_mul (show 3 * x <= 192 by omega) (show (k:Int) <= 8 by omega) om om) ae⟩
theorem GK{n:ab}{w:Int}(hw:∀ w ∈ n.aa,dO w)(hi:In w n.aa.length):1 <= n.aa.getD w.toNat 0 /\ n.aa.getD w.toNat 0 <= 64:=by
 unfold In at hi
 have:=hw _ (bQ (l:=n.aa) (i:=w.toNat) om)
 unfold dO at this
 omega
theorem Me{n:ab}{c:Cell}(h:jO n c)(h2:c.kind = 2):In c.out n.aa.length /\ Plain c.op /\ 1 <= c.args.length:=by
 have hs:=h.2.1
 refine ⟨h.2.2.2 om,?_⟩
 have h3:cA c.op ≠ 0 /\ (c.args.length:Int) = cA c.op:=by
  unfold Shaped at hs
  rcases hs with ⟨h,_⟩ | ⟨_,a,b,_⟩ | ⟨h,_⟩ | ⟨h,_⟩ | ⟨h,_⟩ | ⟨h,_⟩ | ⟨h,_⟩ | ⟨h,_⟩ | ⟨h,_⟩ | ⟨h,_⟩ <;> first | omega | exact ⟨a,b⟩
 exact ⟨(Ap _).1 h3.1,om⟩
theorem GL{at_ l:List Int}{k:Nat}{t:Int}(ht:t = gH at_ (l.take k))(hk:k < l.length):(if at_.getD (l.getD k 0).toNat 0 > t then at_.getD (l.getD k 0).toNat 0 else t) = gH at_ (l.take (k + 1)):=by
 rw [<- Dp hk,<- ht]
 split <;> omega
theorem kW.UH{n:ab}{l out:List Int}{k:Nat}{t:Int}(hv:VT n)(ho:Ord n l)(h:kW n l k out)(hk:k < l.length)(ht:t = if cT (n.cells.getD (l.getD k 0).toNat default).kind then gH out (n.cells.getD (l.getD k 0).toNat default).args else 0):0 <= t /\ t <= 400000:=by
 rw [ht]
 split
 ·rename_i hc
  have:=h.kV hv ho hk hc (n.cell (l.getD k 0)).args.length
  rw [List.take_length] at this
  exact this
 ·omega
theorem CB{n:ab}(hf:bg n){i:Nat}(hi:i < n.cells.length)(h:(n.cells.getD i default).out < 0):(n.cells.getD i default).kind = 7:=by
 refine Classical.byContradiction fun h7=>?_
 have:=(hf.cells i hi).2.2.2 h7
 unfold In at this; omega
theorem kW.Ki{n : ab}{l out : List Int}{k : Nat}{t : Int}(hf : bg n)(ho : Ord n l)(h : kW n l k out)(hk : k < l.length)(h0 : ¬ (n.cells.getD (l.getD k 0).toNat default).out < 0)
  (ht:t = if cT (n.cells.getD (l.getD k 0).toNat default).kind then gH out (n.cells.getD (l.getD k 0).toNat default).args else 0) :
  kW n l (k + 1) (out.set (n.cells.getD (l.getD k 0).toNat default).out.toNat (t + oa n (n.cells.getD (l.getD k 0).toNat default))):=by
 have hr:=ho.p6 _ (bQ hk)
 refine h.set hf ho hk (w:=(n.cells.getD (l.getD k 0).toNat default).out) ⟨hr,fun h7=>?_,rfl⟩ (by rw [ht]; rfl)
 have:=(hf.cells (l.getD k 0).toNat om).2.2.1 h7
 omega
structure DI(n:ab)(l:List Cell):Prop where
 len:l.length = n.aa.length
 at_:∀ i w,cJ n i w -> l.getD w.toNat default = n.cell i
structure mZ(n:ab)(k:Nat)(l:List Cell):Prop where
 len:l.length = n.aa.length
 at_:∀ i w,cJ n i w -> i < k -> l.getD w.toNat default = n.cell i
theorem mZ.init{n:ab}{z:Cell}:mZ n 0 (List.replicate n.aa.length z):=⟨by simp,fun i w hd h=>by have:=hd.1; omega⟩
theorem mZ.set{n:ab}{k:Nat}{l:List Cell}(hf:bg n)(h:mZ n k l)(hk:k < n.cells.length)(h0:(n.cells.getD k default).out ≥ 0):mZ n (k + 1) (l.set (n.cells.getD k default).out.toNat (n.cells.getD k default)):=by
 refine ⟨by rw [List.length_set]; exact h.len,fun i w hd hi=>?_⟩
 have hw:=hf.jh hd
 unfold In at hw
 have hl:=h.len
 have h7:(n.cells.getD k default).kind ≠ 7:=fun e=>by have:=(hf.cells k hk).2.2.1 e; omega
 have MP:cJ n (k:Int) (n.cells.getD k default).out:=⟨⟨om,om⟩,h7,rfl⟩
 have Tu:=hf.jh MP
 unfold In at Tu
 rw [bR]
 by_cases e:(n.cells.getD k default).out = w
 ·rw [if_pos ⟨om,om⟩]
  rw [e] at MP
  have:=hf.unique hd MP
  subst this; rfl
 ·rw [if_neg om]
  refine h.at_ i w hd ?_
  rcases Int.lt_or_eq_of_le (show i <= k by omega) with h1 | h1
  ·exact h1
  ·subst h1; exact absurd hd.2.2 e
theorem mZ.skip{n:ab}{k:Nat}{l:List Cell}(hf:bg n)(h:mZ n k l)(hk:k < n.cells.length)(h0:¬ (n.cells.getD k default).out ≥ 0):mZ n (k + 1) l:=by
 refine ⟨h.len,fun i w hd hi=>?_⟩
 refine h.at_ i w hd ?_
 rcases Int.lt_or_eq_of_le (show i <= k by omega) with h1 | h1
 ·exact h1
 ·subst h1
  have hw:=hf.jh hd
  unfold In at hw
  have:n.cell (k:Int) = n.cells.getD k default:=rfl
  rw [<- this,hd.2.2] at h0
  omega
theorem mZ.done{n:ab}{k:Nat}{l:List Cell}(h:mZ n k l)(hk:k = n.cells.length):DI n l:=⟨h.len,fun i w hd=>h.at_ i w hd (by rw [hk]; exact hd.1.2)⟩
structure Jk(l m:List Int)(i j:Int):Prop where
 len:m.length = l.length
 sum:i + j = (l.length:Int) - 1
 i0:0 <= i
 out:∀ k:Nat,k < l.length -> ((k:Int) < i \/ j < k) -> m.getD k 0 = l.getD (l.length - 1 - k) 0
 RZ:∀ k:Nat,i <= k -> (k:Int) <= j -> m.getD k 0 = l.getD k 0
theorem Jk.init(l:List Int):Jk l l 0 ((l.length:Int) - 1):=⟨rfl,om,om,fun k hk h=>by omega,fun _ _ _=>rfl⟩
theorem Jk.step{l m:List Int}{i j:Int}(h:Jk l m i j)(R8:i < j):Jk l ((m.set i.toNat (m.getD j.toNat 0)).set j.toNat (m.getD i.toNat 0)) (i + 1) (j - 1):=by
 have h1:=h.len; have h2:=h.sum; have h3:=h.i0
 refine ⟨by simp [h1],om,om,fun k hk hc=>?_,fun k ha hb=>?_⟩
 ·rw [bR,bR]
  by_cases e:j.toNat = k
  ·rw [if_pos ⟨e,by rw [List.length_set]; omega⟩,h.RZ i.toNat om om]
   congr 1; omega
  ·rw [if_neg om]
   by_cases e2:i.toNat = k
   ·rw [if_pos ⟨e2,om⟩,h.RZ j.toNat om om]
    congr 1; omega
   ·rw [if_neg om]
    exact h.out k hk om
 ·rw [bR,bR,if_neg om,if_neg om]
  exact h.RZ k om om
theorem Jk.done{l m:List Int}{i j:Int}(h:Jk l m i j)(R8:¬ i < j):m = l.reverse:=by
 have h1:=h.len; have h2:=h.sum
 refine List.ext_getElem (by simp [h1]) fun k hk zB=>?_
 have e:m.getD k 0 = l.getD (l.length - 1 - k) 0:=by
  by_cases e:(k:Int) < i \/ j < k
  ·exact h.out k om e
  ·rw [h.RZ k om om]
   congr 1; omega
 rw [List.getD_eq_getElem?_getD,List.getElem?_eq_getElem hk,List.getD_eq_getElem?_getD,List.getElem?_eq_getElem om] at e
 rw [List.getElem_reverse]
 exact e
open Go Go.AW Go.Proofs
theorem Bi{x:Int}(h0:0 <= x)(h1:x < 256):ay Try.prog 197 [.v (.int .u64 x)] [] [] (fun r o=>r = (vi ((dF (x.toNat + 1):Nat):Int)) /\ o = []):=by
 refine ay.of Try.func197 U U U (n:=25) ae (aL U) ?_
 have hl8:=DH
 refine .sr (.an ?_)
 refine .nil (.seq (.sr (.mv ?_)))
 refine .vl (Y.qq U U) (.nil (.a8 U (fun c4=>?_) (fun c4=>?_)))
 exfalso; omega
 refine .skip (.seq (.sr (.mv ?_)))
 refine .vl (Y.qq U U) (.nil (.a8 U (fun c8=>?_) (fun c8=>?_)))
 exfalso; omega
 refine .skip (.seq (.sr (.mv ?_)))
 refine .vl (Y.qq U U) (.nil (.a8 U (fun Gw=>?_) (fun Gw=>?_)))
 exfalso; omega
 refine .skip (.sr ?_)
 have CD:=EL GI x.toNat
 refine .mv ?_
 refine .mv ?_
 refine .vl (Y.ql Av w9 U (by first | rfl | exact IntWalk.u8_in _ om)) (.vl (Y.qx (b:=GI) (m:=(x).toNat) R4 U U om om) (.vl (Y.ql w9 sx U Ai) (.vl (Y.qb U U aH) (.an (.nil (.ret ?_))))))
 exact .ri rfl (by rw [Jj om]; omega)
theorem GQ{x:Int}(h0:0 <= x)(h1:x < 256):ay Try.prog 194 [.v (.int .u64 x)] [] [] (fun r o=>r = (vi ((dF (x.toNat + 1):Nat):Int)) /\ o = []):=by
 refine ay.of Try.func194 U U U (n:=8) ae (aL U) (.sr (.an ?_))
 refine .nil (.seq (.dA U ?_))
 refine .skip (.sr (.mv ?_))
 refine .bm ON (Bi (x:=x) (om) (om)) U (.ai U U .nil) ae U ?_
 refine .an (.nil (.ret ?_))
 exact .ri rfl (rfl)
theorem me{x:Int}(h0:0 <= x)(h1:x <= 256):ay Try.prog 174 [vi x] [] [] (fun r o=>r = (vi ((dF x.toNat:Nat):Int)) /\ o = []):=by
 refine ay.of Try.func174 U U U (n:=9) ae (aL U) (.sr (.an ?_))
 refine .nil (.seq (.sr (.mv ?_)))
 refine .vl (Y.zd U U) (.nil (.a8 U (fun c4=>?_) (fun c4=>?_)))
 refine .sr (.an (.nil (.ret ?_)))
 exact .ri rfl (by unfold dF; rw [if_pos om]; rfl)
 refine .skip (.sr (.mv ?_))
 refine .vl (Y.wc U U aH) (.vl (Y.qk sx O5 U (v8 _ om)) (.bm OM (GQ (x:=(((x - 1).toNat:Nat):Int)) (om) (om)) U (.ai U U .nil) ae U ?_))
 refine .an (.nil (.ret ?_))
 exact .ri rfl (by rw [show ((((x - 1).toNat:Nat):Int).toNat + 1) = x.toNat by omega])
end Go.Proofs.Ytlimckldnjmabaa
